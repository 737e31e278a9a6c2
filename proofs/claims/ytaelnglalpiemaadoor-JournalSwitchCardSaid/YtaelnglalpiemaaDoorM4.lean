/- Texts F, H1, H2, C8, H3, H4, C10, S1, N1, H5, H6, N4, joined. -/
import Derived.Test.YtaelnglalpiemaaDoorM3
import Derived.Test.YtaelnglalpiemaaDoorRows
import Derived.KernelRfl
import Derived.Lib.LaidTab

/- Closed facts on the types of this seat's program, each by the kernel (written by facts.py off the given translation). -/
namespace Go.Proofs.YtaelnglalpiemaaDoor
open Go.Ab

theorem mixed : Tryd.prog.follows .mixedOrders = true := by kernel_rfl
@[go_sem] theorem ty1 : tyInfo Tryd.prog 1 = some (false, 1) := by kernel_rfl
@[go_sem] theorem by1 : byteTy Tryd.prog 1 = false := by kernel_rfl
@[go_sem] theorem cc1 : Program.concrete Tryd.prog 1 = true := by kernel_rfl
@[go_sem] theorem st1 : strTy Tryd.prog 1 = false := by kernel_rfl
@[go_sem] theorem nk1 : nilKind Tryd.prog 1 = 3 := by kernel_rfl
@[go_sem] theorem zt1 : ztree Tryd.prog 1 = some (.lit .nilFunc) := by kernel_rfl
@[go_sem] theorem ty2 : tyInfo Tryd.prog 2 = some (false, 1) := by kernel_rfl
@[go_sem] theorem it2 : intTy Tryd.prog 2 = some .i64 := by kernel_rfl
@[go_sem] theorem by2 : byteTy Tryd.prog 2 = false := by kernel_rfl
@[go_sem] theorem cc2 : Program.concrete Tryd.prog 2 = true := by kernel_rfl
@[go_sem] theorem st2 : strTy Tryd.prog 2 = false := by kernel_rfl
@[go_sem] theorem zt2 : ztree Tryd.prog 2 = some (.lit (.int .i64 0)) := by kernel_rfl
@[go_sem] theorem ty3 : tyInfo Tryd.prog 3 = some (false, 1) := by kernel_rfl
@[go_sem] theorem it3 : intTy Tryd.prog 3 = some .i64 := by kernel_rfl
@[go_sem] theorem by3 : byteTy Tryd.prog 3 = false := by kernel_rfl
@[go_sem] theorem cc3 : Program.concrete Tryd.prog 3 = true := by kernel_rfl
@[go_sem] theorem st3 : strTy Tryd.prog 3 = false := by kernel_rfl
@[go_sem] theorem zt3 : ztree Tryd.prog 3 = some (.lit (.int .i64 0)) := by kernel_rfl
@[go_sem] theorem ty4 : tyInfo Tryd.prog 4 = some (false, 1) := by kernel_rfl
@[go_sem] theorem by4 : byteTy Tryd.prog 4 = false := by kernel_rfl
@[go_sem] theorem cc4 : Program.concrete Tryd.prog 4 = true := by kernel_rfl
@[go_sem] theorem st4 : strTy Tryd.prog 4 = false := by kernel_rfl
@[go_sem] theorem bt4 : boolTy Tryd.prog 4 = true := by kernel_rfl
@[go_sem] theorem zt4 : ztree Tryd.prog 4 = some (.lit (.bool false)) := by kernel_rfl
@[go_sem] theorem ty5 : tyInfo Tryd.prog 5 = some (false, 1) := by kernel_rfl
@[go_sem] theorem it5 : intTy Tryd.prog 5 = some .u8 := by kernel_rfl
@[go_sem] theorem by5 : byteTy Tryd.prog 5 = true := by kernel_rfl
@[go_sem] theorem sz1_5 : sizeIs Tryd.prog 5 1 = true := by kernel_rfl
@[go_sem] theorem cc5 : Program.concrete Tryd.prog 5 = true := by kernel_rfl
@[go_sem] theorem st5 : strTy Tryd.prog 5 = false := by kernel_rfl
@[go_sem] theorem zt5 : ztree Tryd.prog 5 = some (.lit (.int .u8 0)) := by kernel_rfl
@[go_sem] theorem ty9 : tyInfo Tryd.prog 9 = some (false, 1) := by kernel_rfl
@[go_sem] theorem by9 : byteTy Tryd.prog 9 = false := by kernel_rfl
@[go_sem] theorem cc9 : Program.concrete Tryd.prog 9 = true := by kernel_rfl
@[go_sem] theorem st9 : strTy Tryd.prog 9 = true := by kernel_rfl
@[go_sem] theorem zt9 : ztree Tryd.prog 9 = some (.lit (.string ByteArray.empty)) := by kernel_rfl
@[go_sem] theorem ty12 : tyInfo Tryd.prog 12 = some (false, 1) := by kernel_rfl
@[go_sem] theorem it12 : intTy Tryd.prog 12 = some .u64 := by kernel_rfl
@[go_sem] theorem by12 : byteTy Tryd.prog 12 = false := by kernel_rfl
@[go_sem] theorem cc12 : Program.concrete Tryd.prog 12 = true := by kernel_rfl
@[go_sem] theorem st12 : strTy Tryd.prog 12 = false := by kernel_rfl
@[go_sem] theorem zt12 : ztree Tryd.prog 12 = some (.lit (.int .u64 0)) := by kernel_rfl
@[go_sem] theorem ty13 : tyInfo Tryd.prog 13 = some (true, 2) := by kernel_rfl
@[go_sem] theorem by13 : byteTy Tryd.prog 13 = false := by kernel_rfl
@[go_sem] theorem cc13 : Program.concrete Tryd.prog 13 = true := by kernel_rfl
@[go_sem] theorem st13 : strTy Tryd.prog 13 = false := by kernel_rfl
@[go_sem] theorem zt13 : ztree Tryd.prog 13 = some (.agg [(.lit (.string ByteArray.empty)), (.lit (.int .u64 0))]) := by kernel_rfl
@[go_sem] theorem sp13 : splaces Tryd.prog 13 = some [(0, 1), (1, 1)] := by kernel_rfl
@[go_sem] theorem fo13_0 : fieldOff Tryd.prog 13 0 = some 0 := by kernel_rfl
@[go_sem] theorem fo13_1 : fieldOff Tryd.prog 13 1 = some 1 := by kernel_rfl
@[go_sem] theorem ty20 : tyInfo Tryd.prog 20 = some (false, 1) := by kernel_rfl
@[go_sem] theorem by20 : byteTy Tryd.prog 20 = false := by kernel_rfl
@[go_sem] theorem st20 : strTy Tryd.prog 20 = false := by kernel_rfl
@[go_sem] theorem zt20 : ztree Tryd.prog 20 = some (.lit .nilIface) := by kernel_rfl
@[go_sem] theorem ty21 : tyInfo Tryd.prog 21 = some (false, 1) := by kernel_rfl
@[go_sem] theorem it21 : intTy Tryd.prog 21 = some .i32 := by kernel_rfl
@[go_sem] theorem by21 : byteTy Tryd.prog 21 = false := by kernel_rfl
@[go_sem] theorem cc21 : Program.concrete Tryd.prog 21 = true := by kernel_rfl
@[go_sem] theorem st21 : strTy Tryd.prog 21 = false := by kernel_rfl
@[go_sem] theorem zt21 : ztree Tryd.prog 21 = some (.lit (.int .i32 0)) := by kernel_rfl
@[go_sem] theorem ty22 : tyInfo Tryd.prog 22 = some (false, 1) := by kernel_rfl
@[go_sem] theorem it22 : intTy Tryd.prog 22 = some .u64 := by kernel_rfl
@[go_sem] theorem by22 : byteTy Tryd.prog 22 = false := by kernel_rfl
@[go_sem] theorem cc22 : Program.concrete Tryd.prog 22 = true := by kernel_rfl
@[go_sem] theorem st22 : strTy Tryd.prog 22 = false := by kernel_rfl
@[go_sem] theorem zt22 : ztree Tryd.prog 22 = some (.lit (.int .u64 0)) := by kernel_rfl
@[go_sem] theorem ty23 : tyInfo Tryd.prog 23 = some (true, 6) := by kernel_rfl
@[go_sem] theorem by23 : byteTy Tryd.prog 23 = false := by kernel_rfl
@[go_sem] theorem cc23 : Program.concrete Tryd.prog 23 = true := by kernel_rfl
@[go_sem] theorem st23 : strTy Tryd.prog 23 = false := by kernel_rfl
@[go_sem] theorem zt23 : ztree Tryd.prog 23 = some (.agg [(.lit (.int .i64 0)), (.lit (.int .u64 0)), (.lit (.int .i64 0)), (.lit (.int .i64 0)), (.lit (.string ByteArray.empty)), (.lit (.int .i64 0))]) := by kernel_rfl
@[go_sem] theorem sp23 : splaces Tryd.prog 23 = some [(0, 1), (1, 1), (2, 1), (3, 1), (4, 1), (5, 1)] := by kernel_rfl
@[go_sem] theorem fo23_0 : fieldOff Tryd.prog 23 0 = some 0 := by kernel_rfl
@[go_sem] theorem fo23_1 : fieldOff Tryd.prog 23 1 = some 1 := by kernel_rfl
@[go_sem] theorem fo23_2 : fieldOff Tryd.prog 23 2 = some 2 := by kernel_rfl
@[go_sem] theorem fo23_3 : fieldOff Tryd.prog 23 3 = some 3 := by kernel_rfl
@[go_sem] theorem fo23_4 : fieldOff Tryd.prog 23 4 = some 4 := by kernel_rfl
@[go_sem] theorem fo23_5 : fieldOff Tryd.prog 23 5 = some 5 := by kernel_rfl
@[go_sem] theorem ty24 : tyInfo Tryd.prog 24 = some (true, 6) := by kernel_rfl
@[go_sem] theorem by24 : byteTy Tryd.prog 24 = false := by kernel_rfl
@[go_sem] theorem cc24 : Program.concrete Tryd.prog 24 = true := by kernel_rfl
@[go_sem] theorem eq24 : eqTop Tryd.prog 24 = some (.agg [.int, .int, .int, .int, .str, .int]) := by kernel_rfl
@[go_sem] theorem st24 : strTy Tryd.prog 24 = false := by kernel_rfl
@[go_sem] theorem zt24 : ztree Tryd.prog 24 = some (.agg [(.lit (.int .i64 0)), (.lit (.int .u64 0)), (.lit (.int .i64 0)), (.lit (.int .i64 0)), (.lit (.string ByteArray.empty)), (.lit (.int .i64 0))]) := by kernel_rfl
@[go_sem] theorem sp24 : splaces Tryd.prog 24 = some [(0, 1), (1, 1), (2, 1), (3, 1), (4, 1), (5, 1)] := by kernel_rfl
@[go_sem] theorem fo24_0 : fieldOff Tryd.prog 24 0 = some 0 := by kernel_rfl
@[go_sem] theorem fo24_1 : fieldOff Tryd.prog 24 1 = some 1 := by kernel_rfl
@[go_sem] theorem fo24_2 : fieldOff Tryd.prog 24 2 = some 2 := by kernel_rfl
@[go_sem] theorem fo24_3 : fieldOff Tryd.prog 24 3 = some 3 := by kernel_rfl
@[go_sem] theorem fo24_4 : fieldOff Tryd.prog 24 4 = some 4 := by kernel_rfl
@[go_sem] theorem fo24_5 : fieldOff Tryd.prog 24 5 = some 5 := by kernel_rfl
@[go_sem] theorem ty25 : tyInfo Tryd.prog 25 = some (false, 1) := by kernel_rfl
@[go_sem] theorem by25 : byteTy Tryd.prog 25 = false := by kernel_rfl
@[go_sem] theorem cc25 : Program.concrete Tryd.prog 25 = true := by kernel_rfl
@[go_sem] theorem st25 : strTy Tryd.prog 25 = false := by kernel_rfl
@[go_sem] theorem sl25 : sliceTy Tryd.prog 25 = some 5 := by kernel_rfl
@[go_sem] theorem si25 : sliceInfo Tryd.prog 25 = some (5, 1, 1, (.lit (.int .u8 0))) := by kernel_rfl
@[go_sem] theorem nk25 : nilKind Tryd.prog 25 = 1 := by kernel_rfl
@[go_sem] theorem zt25 : ztree Tryd.prog 25 = some .nils := by kernel_rfl
@[go_sem] theorem ty26 : tyInfo Tryd.prog 26 = some (true, 10) := by kernel_rfl
@[go_sem] theorem by26 : byteTy Tryd.prog 26 = false := by kernel_rfl
@[go_sem] theorem cc26 : Program.concrete Tryd.prog 26 = true := by kernel_rfl
@[go_sem] theorem st26 : strTy Tryd.prog 26 = false := by kernel_rfl
@[go_sem] theorem zt26 : ztree Tryd.prog 26 = some (.agg [(.lit (.bool false)), (.agg [(.lit (.int .i64 0)), (.lit (.int .u64 0)), (.lit (.int .i64 0)), (.lit (.int .i64 0)), (.lit (.string ByteArray.empty)), (.lit (.int .i64 0))]), (.lit (.int .i64 0)), .nils, .nils]) := by kernel_rfl
@[go_sem] theorem sp26 : splaces Tryd.prog 26 = some [(0, 1), (1, 6), (7, 1), (8, 1), (9, 1)] := by kernel_rfl
@[go_sem] theorem fo26_0 : fieldOff Tryd.prog 26 0 = some 0 := by kernel_rfl
@[go_sem] theorem fo26_1 : fieldOff Tryd.prog 26 1 = some 1 := by kernel_rfl
@[go_sem] theorem fo26_2 : fieldOff Tryd.prog 26 2 = some 7 := by kernel_rfl
@[go_sem] theorem fo26_3 : fieldOff Tryd.prog 26 3 = some 8 := by kernel_rfl
@[go_sem] theorem fo26_4 : fieldOff Tryd.prog 26 4 = some 9 := by kernel_rfl
@[go_sem] theorem ty27 : tyInfo Tryd.prog 27 = some (true, 10) := by kernel_rfl
@[go_sem] theorem by27 : byteTy Tryd.prog 27 = false := by kernel_rfl
@[go_sem] theorem cc27 : Program.concrete Tryd.prog 27 = true := by kernel_rfl
@[go_sem] theorem st27 : strTy Tryd.prog 27 = false := by kernel_rfl
@[go_sem] theorem zt27 : ztree Tryd.prog 27 = some (.agg [(.lit (.bool false)), (.agg [(.lit (.int .i64 0)), (.lit (.int .u64 0)), (.lit (.int .i64 0)), (.lit (.int .i64 0)), (.lit (.string ByteArray.empty)), (.lit (.int .i64 0))]), (.lit (.int .i64 0)), .nils, .nils]) := by kernel_rfl
@[go_sem] theorem sp27 : splaces Tryd.prog 27 = some [(0, 1), (1, 6), (7, 1), (8, 1), (9, 1)] := by kernel_rfl
@[go_sem] theorem fo27_0 : fieldOff Tryd.prog 27 0 = some 0 := by kernel_rfl
@[go_sem] theorem fo27_1 : fieldOff Tryd.prog 27 1 = some 1 := by kernel_rfl
@[go_sem] theorem fo27_2 : fieldOff Tryd.prog 27 2 = some 7 := by kernel_rfl
@[go_sem] theorem fo27_3 : fieldOff Tryd.prog 27 3 = some 8 := by kernel_rfl
@[go_sem] theorem fo27_4 : fieldOff Tryd.prog 27 4 = some 9 := by kernel_rfl
@[go_sem] theorem ty28 : tyInfo Tryd.prog 28 = some (false, 1) := by kernel_rfl
@[go_sem] theorem by28 : byteTy Tryd.prog 28 = false := by kernel_rfl
@[go_sem] theorem cc28 : Program.concrete Tryd.prog 28 = true := by kernel_rfl
@[go_sem] theorem st28 : strTy Tryd.prog 28 = false := by kernel_rfl
@[go_sem] theorem sl28 : sliceTy Tryd.prog 28 = some 3 := by kernel_rfl
@[go_sem] theorem si28 : sliceInfo Tryd.prog 28 = some (3, 1, 8, (.lit (.int .i64 0))) := by kernel_rfl
@[go_sem] theorem nk28 : nilKind Tryd.prog 28 = 1 := by kernel_rfl
@[go_sem] theorem zt28 : ztree Tryd.prog 28 = some .nils := by kernel_rfl
@[go_sem] theorem ty29 : tyInfo Tryd.prog 29 = some (false, 1) := by kernel_rfl
@[go_sem] theorem by29 : byteTy Tryd.prog 29 = false := by kernel_rfl
@[go_sem] theorem cc29 : Program.concrete Tryd.prog 29 = true := by kernel_rfl
@[go_sem] theorem st29 : strTy Tryd.prog 29 = false := by kernel_rfl
@[go_sem] theorem nk29 : nilKind Tryd.prog 29 = 3 := by kernel_rfl
@[go_sem] theorem zt29 : ztree Tryd.prog 29 = some (.lit .nilFunc) := by kernel_rfl
@[go_sem] theorem ty30 : tyInfo Tryd.prog 30 = some (false, 1) := by kernel_rfl
@[go_sem] theorem by30 : byteTy Tryd.prog 30 = false := by kernel_rfl
@[go_sem] theorem cc30 : Program.concrete Tryd.prog 30 = true := by kernel_rfl
@[go_sem] theorem st30 : strTy Tryd.prog 30 = false := by kernel_rfl
@[go_sem] theorem nk30 : nilKind Tryd.prog 30 = 2 := by kernel_rfl
@[go_sem] theorem zt30 : ztree Tryd.prog 30 = some (.lit (.pointer none)) := by kernel_rfl
@[go_sem] theorem ty31 : tyInfo Tryd.prog 31 = some (false, 1) := by kernel_rfl
@[go_sem] theorem by31 : byteTy Tryd.prog 31 = false := by kernel_rfl
@[go_sem] theorem cc31 : Program.concrete Tryd.prog 31 = true := by kernel_rfl
@[go_sem] theorem st31 : strTy Tryd.prog 31 = false := by kernel_rfl
@[go_sem] theorem nk31 : nilKind Tryd.prog 31 = 3 := by kernel_rfl
@[go_sem] theorem zt31 : ztree Tryd.prog 31 = some (.lit .nilFunc) := by kernel_rfl
@[go_sem] theorem ty32 : tyInfo Tryd.prog 32 = some (false, 1) := by kernel_rfl
@[go_sem] theorem by32 : byteTy Tryd.prog 32 = false := by kernel_rfl
@[go_sem] theorem cc32 : Program.concrete Tryd.prog 32 = true := by kernel_rfl
@[go_sem] theorem st32 : strTy Tryd.prog 32 = false := by kernel_rfl
@[go_sem] theorem nk32 : nilKind Tryd.prog 32 = 3 := by kernel_rfl
@[go_sem] theorem zt32 : ztree Tryd.prog 32 = some (.lit .nilFunc) := by kernel_rfl
@[go_sem] theorem ty33 : tyInfo Tryd.prog 33 = some (false, 1) := by kernel_rfl
@[go_sem] theorem by33 : byteTy Tryd.prog 33 = false := by kernel_rfl
@[go_sem] theorem cc33 : Program.concrete Tryd.prog 33 = true := by kernel_rfl
@[go_sem] theorem st33 : strTy Tryd.prog 33 = false := by kernel_rfl
@[go_sem] theorem nk33 : nilKind Tryd.prog 33 = 3 := by kernel_rfl
@[go_sem] theorem zt33 : ztree Tryd.prog 33 = some (.lit .nilFunc) := by kernel_rfl
@[go_sem] theorem ty34 : tyInfo Tryd.prog 34 = some (false, 1) := by kernel_rfl
@[go_sem] theorem by34 : byteTy Tryd.prog 34 = false := by kernel_rfl
@[go_sem] theorem cc34 : Program.concrete Tryd.prog 34 = true := by kernel_rfl
@[go_sem] theorem st34 : strTy Tryd.prog 34 = false := by kernel_rfl
@[go_sem] theorem sl34 : sliceTy Tryd.prog 34 = some 27 := by kernel_rfl
@[go_sem] theorem si34 : sliceInfo Tryd.prog 34 = some (27, 10, 120, (.agg [(.lit (.bool false)), (.agg [(.lit (.int .i64 0)), (.lit (.int .u64 0)), (.lit (.int .i64 0)), (.lit (.int .i64 0)), (.lit (.string ByteArray.empty)), (.lit (.int .i64 0))]), (.lit (.int .i64 0)), .nils, .nils])) := by kernel_rfl
@[go_sem] theorem nk34 : nilKind Tryd.prog 34 = 1 := by kernel_rfl
@[go_sem] theorem zt34 : ztree Tryd.prog 34 = some .nils := by kernel_rfl
@[go_sem] theorem ty35 : tyInfo Tryd.prog 35 = some (false, 1) := by kernel_rfl
@[go_sem] theorem by35 : byteTy Tryd.prog 35 = false := by kernel_rfl
@[go_sem] theorem cc35 : Program.concrete Tryd.prog 35 = true := by kernel_rfl
@[go_sem] theorem st35 : strTy Tryd.prog 35 = false := by kernel_rfl
@[go_sem] theorem nk35 : nilKind Tryd.prog 35 = 3 := by kernel_rfl
@[go_sem] theorem zt35 : ztree Tryd.prog 35 = some (.lit .nilFunc) := by kernel_rfl
@[go_sem] theorem ty36 : tyInfo Tryd.prog 36 = some (false, 1) := by kernel_rfl
@[go_sem] theorem by36 : byteTy Tryd.prog 36 = false := by kernel_rfl
@[go_sem] theorem cc36 : Program.concrete Tryd.prog 36 = true := by kernel_rfl
@[go_sem] theorem st36 : strTy Tryd.prog 36 = false := by kernel_rfl
@[go_sem] theorem nk36 : nilKind Tryd.prog 36 = 3 := by kernel_rfl
@[go_sem] theorem zt36 : ztree Tryd.prog 36 = some (.lit .nilFunc) := by kernel_rfl
@[go_sem] theorem ty37 : tyInfo Tryd.prog 37 = some (false, 1) := by kernel_rfl
@[go_sem] theorem by37 : byteTy Tryd.prog 37 = false := by kernel_rfl
@[go_sem] theorem cc37 : Program.concrete Tryd.prog 37 = true := by kernel_rfl
@[go_sem] theorem st37 : strTy Tryd.prog 37 = false := by kernel_rfl
@[go_sem] theorem sl37 : sliceTy Tryd.prog 37 = some 24 := by kernel_rfl
@[go_sem] theorem si37 : sliceInfo Tryd.prog 37 = some (24, 6, 56, (.agg [(.lit (.int .i64 0)), (.lit (.int .u64 0)), (.lit (.int .i64 0)), (.lit (.int .i64 0)), (.lit (.string ByteArray.empty)), (.lit (.int .i64 0))])) := by kernel_rfl
@[go_sem] theorem nk37 : nilKind Tryd.prog 37 = 1 := by kernel_rfl
@[go_sem] theorem zt37 : ztree Tryd.prog 37 = some .nils := by kernel_rfl
@[go_sem] theorem ty38 : tyInfo Tryd.prog 38 = some (false, 1) := by kernel_rfl
@[go_sem] theorem by38 : byteTy Tryd.prog 38 = false := by kernel_rfl
@[go_sem] theorem cc38 : Program.concrete Tryd.prog 38 = true := by kernel_rfl
@[go_sem] theorem st38 : strTy Tryd.prog 38 = false := by kernel_rfl
@[go_sem] theorem nk38 : nilKind Tryd.prog 38 = 3 := by kernel_rfl
@[go_sem] theorem zt38 : ztree Tryd.prog 38 = some (.lit .nilFunc) := by kernel_rfl
@[go_sem] theorem ty39 : tyInfo Tryd.prog 39 = some (false, 1) := by kernel_rfl
@[go_sem] theorem by39 : byteTy Tryd.prog 39 = false := by kernel_rfl
@[go_sem] theorem cc39 : Program.concrete Tryd.prog 39 = true := by kernel_rfl
@[go_sem] theorem st39 : strTy Tryd.prog 39 = false := by kernel_rfl
@[go_sem] theorem nk39 : nilKind Tryd.prog 39 = 3 := by kernel_rfl
@[go_sem] theorem zt39 : ztree Tryd.prog 39 = some (.lit .nilFunc) := by kernel_rfl
@[go_sem] theorem ty40 : tyInfo Tryd.prog 40 = some (false, 1) := by kernel_rfl
@[go_sem] theorem by40 : byteTy Tryd.prog 40 = false := by kernel_rfl
@[go_sem] theorem cc40 : Program.concrete Tryd.prog 40 = true := by kernel_rfl
@[go_sem] theorem st40 : strTy Tryd.prog 40 = false := by kernel_rfl
@[go_sem] theorem nk40 : nilKind Tryd.prog 40 = 3 := by kernel_rfl
@[go_sem] theorem zt40 : ztree Tryd.prog 40 = some (.lit .nilFunc) := by kernel_rfl
@[go_sem] theorem ty41 : tyInfo Tryd.prog 41 = some (false, 1) := by kernel_rfl
@[go_sem] theorem by41 : byteTy Tryd.prog 41 = false := by kernel_rfl
@[go_sem] theorem cc41 : Program.concrete Tryd.prog 41 = true := by kernel_rfl
@[go_sem] theorem st41 : strTy Tryd.prog 41 = false := by kernel_rfl
@[go_sem] theorem nk41 : nilKind Tryd.prog 41 = 3 := by kernel_rfl
@[go_sem] theorem zt41 : ztree Tryd.prog 41 = some (.lit .nilFunc) := by kernel_rfl
@[go_sem] theorem ty42 : tyInfo Tryd.prog 42 = some (false, 1) := by kernel_rfl
@[go_sem] theorem it42 : intTy Tryd.prog 42 = some .u16 := by kernel_rfl
@[go_sem] theorem by42 : byteTy Tryd.prog 42 = false := by kernel_rfl
@[go_sem] theorem cc42 : Program.concrete Tryd.prog 42 = true := by kernel_rfl
@[go_sem] theorem st42 : strTy Tryd.prog 42 = false := by kernel_rfl
@[go_sem] theorem zt42 : ztree Tryd.prog 42 = some (.lit (.int .u16 0)) := by kernel_rfl
@[go_sem] theorem ty43 : tyInfo Tryd.prog 43 = some (false, 1) := by kernel_rfl
@[go_sem] theorem it43 : intTy Tryd.prog 43 = some .i64 := by kernel_rfl
@[go_sem] theorem by43 : byteTy Tryd.prog 43 = false := by kernel_rfl
@[go_sem] theorem cc43 : Program.concrete Tryd.prog 43 = true := by kernel_rfl
@[go_sem] theorem st43 : strTy Tryd.prog 43 = false := by kernel_rfl
@[go_sem] theorem zt43 : ztree Tryd.prog 43 = some (.lit (.int .i64 0)) := by kernel_rfl
@[go_sem] theorem ty45 : tyInfo Tryd.prog 45 = some (false, 1) := by kernel_rfl
@[go_sem] theorem by45 : byteTy Tryd.prog 45 = false := by kernel_rfl
@[go_sem] theorem cc45 : Program.concrete Tryd.prog 45 = true := by kernel_rfl
@[go_sem] theorem st45 : strTy Tryd.prog 45 = false := by kernel_rfl
@[go_sem] theorem nk45 : nilKind Tryd.prog 45 = 3 := by kernel_rfl
@[go_sem] theorem zt45 : ztree Tryd.prog 45 = some (.lit .nilFunc) := by kernel_rfl
@[go_sem] theorem ty46 : tyInfo Tryd.prog 46 = some (false, 1) := by kernel_rfl
@[go_sem] theorem by46 : byteTy Tryd.prog 46 = false := by kernel_rfl
@[go_sem] theorem cc46 : Program.concrete Tryd.prog 46 = true := by kernel_rfl
@[go_sem] theorem st46 : strTy Tryd.prog 46 = false := by kernel_rfl
@[go_sem] theorem nk46 : nilKind Tryd.prog 46 = 3 := by kernel_rfl
@[go_sem] theorem zt46 : ztree Tryd.prog 46 = some (.lit .nilFunc) := by kernel_rfl
@[go_sem] theorem ty47 : tyInfo Tryd.prog 47 = some (true, 2) := by kernel_rfl
@[go_sem] theorem by47 : byteTy Tryd.prog 47 = false := by kernel_rfl
@[go_sem] theorem cc47 : Program.concrete Tryd.prog 47 = true := by kernel_rfl
@[go_sem] theorem pa47 : ptrArr Tryd.prog 47 = some (2, 25, 1) := by kernel_rfl
@[go_sem] theorem st47 : strTy Tryd.prog 47 = false := by kernel_rfl
@[go_sem] theorem ar47 : arrInfo Tryd.prog 47 = some (2, 25, 1) := by kernel_rfl
@[go_sem] theorem sp47 : splaces Tryd.prog 47 = none := by kernel_rfl
@[go_sem] theorem zt47 : ztree Tryd.prog 47 = some (.agg (List.replicate 2 .nils)) := by kernel_rfl
@[go_sem] theorem ty48 : tyInfo Tryd.prog 48 = some (true, 8) := by kernel_rfl
@[go_sem] theorem by48 : byteTy Tryd.prog 48 = false := by kernel_rfl
@[go_sem] theorem cc48 : Program.concrete Tryd.prog 48 = true := by kernel_rfl
@[go_sem] theorem st48 : strTy Tryd.prog 48 = false := by kernel_rfl
@[go_sem] theorem zt48 : ztree Tryd.prog 48 = some (.agg [(.agg (List.replicate 2 .nils)), (.lit (.int .i64 0)), (.lit (.int .i64 0)), (.lit (.int .i64 0)), (.lit (.int .i64 0)), (.lit (.int .i64 0)), (.lit (.bool false))]) := by kernel_rfl
@[go_sem] theorem sp48 : splaces Tryd.prog 48 = some [(0, 2), (2, 1), (3, 1), (4, 1), (5, 1), (6, 1), (7, 1)] := by kernel_rfl
@[go_sem] theorem fo48_0 : fieldOff Tryd.prog 48 0 = some 0 := by kernel_rfl
@[go_sem] theorem fo48_1 : fieldOff Tryd.prog 48 1 = some 2 := by kernel_rfl
@[go_sem] theorem fo48_2 : fieldOff Tryd.prog 48 2 = some 3 := by kernel_rfl
@[go_sem] theorem fo48_3 : fieldOff Tryd.prog 48 3 = some 4 := by kernel_rfl
@[go_sem] theorem fo48_4 : fieldOff Tryd.prog 48 4 = some 5 := by kernel_rfl
@[go_sem] theorem fo48_5 : fieldOff Tryd.prog 48 5 = some 6 := by kernel_rfl
@[go_sem] theorem fo48_6 : fieldOff Tryd.prog 48 6 = some 7 := by kernel_rfl
@[go_sem] theorem ty49 : tyInfo Tryd.prog 49 = some (true, 8) := by kernel_rfl
@[go_sem] theorem by49 : byteTy Tryd.prog 49 = false := by kernel_rfl
@[go_sem] theorem cc49 : Program.concrete Tryd.prog 49 = true := by kernel_rfl
@[go_sem] theorem st49 : strTy Tryd.prog 49 = false := by kernel_rfl
@[go_sem] theorem zt49 : ztree Tryd.prog 49 = some (.agg [(.agg (List.replicate 2 .nils)), (.lit (.int .i64 0)), (.lit (.int .i64 0)), (.lit (.int .i64 0)), (.lit (.int .i64 0)), (.lit (.int .i64 0)), (.lit (.bool false))]) := by kernel_rfl
@[go_sem] theorem sp49 : splaces Tryd.prog 49 = some [(0, 2), (2, 1), (3, 1), (4, 1), (5, 1), (6, 1), (7, 1)] := by kernel_rfl
@[go_sem] theorem fo49_0 : fieldOff Tryd.prog 49 0 = some 0 := by kernel_rfl
@[go_sem] theorem fo49_1 : fieldOff Tryd.prog 49 1 = some 2 := by kernel_rfl
@[go_sem] theorem fo49_2 : fieldOff Tryd.prog 49 2 = some 3 := by kernel_rfl
@[go_sem] theorem fo49_3 : fieldOff Tryd.prog 49 3 = some 4 := by kernel_rfl
@[go_sem] theorem fo49_4 : fieldOff Tryd.prog 49 4 = some 5 := by kernel_rfl
@[go_sem] theorem fo49_5 : fieldOff Tryd.prog 49 5 = some 6 := by kernel_rfl
@[go_sem] theorem fo49_6 : fieldOff Tryd.prog 49 6 = some 7 := by kernel_rfl
@[go_sem] theorem ty51 : tyInfo Tryd.prog 51 = some (false, 1) := by kernel_rfl
@[go_sem] theorem by51 : byteTy Tryd.prog 51 = false := by kernel_rfl
@[go_sem] theorem cc51 : Program.concrete Tryd.prog 51 = true := by kernel_rfl
@[go_sem] theorem st51 : strTy Tryd.prog 51 = false := by kernel_rfl
@[go_sem] theorem nk51 : nilKind Tryd.prog 51 = 3 := by kernel_rfl
@[go_sem] theorem zt51 : ztree Tryd.prog 51 = some (.lit .nilFunc) := by kernel_rfl
@[go_sem] theorem ty52 : tyInfo Tryd.prog 52 = some (false, 1) := by kernel_rfl
@[go_sem] theorem by52 : byteTy Tryd.prog 52 = false := by kernel_rfl
@[go_sem] theorem cc52 : Program.concrete Tryd.prog 52 = true := by kernel_rfl
@[go_sem] theorem st52 : strTy Tryd.prog 52 = false := by kernel_rfl
@[go_sem] theorem nk52 : nilKind Tryd.prog 52 = 3 := by kernel_rfl
@[go_sem] theorem zt52 : ztree Tryd.prog 52 = some (.lit .nilFunc) := by kernel_rfl
@[go_sem] theorem ty53 : tyInfo Tryd.prog 53 = some (false, 1) := by kernel_rfl
@[go_sem] theorem by53 : byteTy Tryd.prog 53 = false := by kernel_rfl
@[go_sem] theorem cc53 : Program.concrete Tryd.prog 53 = true := by kernel_rfl
@[go_sem] theorem st53 : strTy Tryd.prog 53 = false := by kernel_rfl
@[go_sem] theorem nk53 : nilKind Tryd.prog 53 = 3 := by kernel_rfl
@[go_sem] theorem zt53 : ztree Tryd.prog 53 = some (.lit .nilFunc) := by kernel_rfl
@[go_sem] theorem ty54 : tyInfo Tryd.prog 54 = some (false, 1) := by kernel_rfl
@[go_sem] theorem by54 : byteTy Tryd.prog 54 = false := by kernel_rfl
@[go_sem] theorem cc54 : Program.concrete Tryd.prog 54 = true := by kernel_rfl
@[go_sem] theorem st54 : strTy Tryd.prog 54 = false := by kernel_rfl
@[go_sem] theorem sl54 : sliceTy Tryd.prog 54 = some 25 := by kernel_rfl
@[go_sem] theorem si54 : sliceInfo Tryd.prog 54 = some (25, 1, 24, .nils) := by kernel_rfl
@[go_sem] theorem nk54 : nilKind Tryd.prog 54 = 1 := by kernel_rfl
@[go_sem] theorem zt54 : ztree Tryd.prog 54 = some .nils := by kernel_rfl
@[go_sem] theorem ty56 : tyInfo Tryd.prog 56 = some (false, 1) := by kernel_rfl
@[go_sem] theorem by56 : byteTy Tryd.prog 56 = false := by kernel_rfl
@[go_sem] theorem cc56 : Program.concrete Tryd.prog 56 = true := by kernel_rfl
@[go_sem] theorem st56 : strTy Tryd.prog 56 = false := by kernel_rfl
@[go_sem] theorem nk56 : nilKind Tryd.prog 56 = 3 := by kernel_rfl
@[go_sem] theorem zt56 : ztree Tryd.prog 56 = some (.lit .nilFunc) := by kernel_rfl
@[go_sem] theorem ty57 : tyInfo Tryd.prog 57 = some (false, 1) := by kernel_rfl
@[go_sem] theorem by57 : byteTy Tryd.prog 57 = false := by kernel_rfl
@[go_sem] theorem cc57 : Program.concrete Tryd.prog 57 = true := by kernel_rfl
@[go_sem] theorem st57 : strTy Tryd.prog 57 = false := by kernel_rfl
@[go_sem] theorem nk57 : nilKind Tryd.prog 57 = 3 := by kernel_rfl
@[go_sem] theorem zt57 : ztree Tryd.prog 57 = some (.lit .nilFunc) := by kernel_rfl
@[go_sem] theorem ty58 : tyInfo Tryd.prog 58 = some (false, 1) := by kernel_rfl
@[go_sem] theorem by58 : byteTy Tryd.prog 58 = false := by kernel_rfl
@[go_sem] theorem cc58 : Program.concrete Tryd.prog 58 = true := by kernel_rfl
@[go_sem] theorem st58 : strTy Tryd.prog 58 = false := by kernel_rfl
@[go_sem] theorem nk58 : nilKind Tryd.prog 58 = 3 := by kernel_rfl
@[go_sem] theorem zt58 : ztree Tryd.prog 58 = some (.lit .nilFunc) := by kernel_rfl
@[go_sem] theorem ty60 : tyInfo Tryd.prog 60 = some (false, 1) := by kernel_rfl
@[go_sem] theorem by60 : byteTy Tryd.prog 60 = false := by kernel_rfl
@[go_sem] theorem cc60 : Program.concrete Tryd.prog 60 = true := by kernel_rfl
@[go_sem] theorem st60 : strTy Tryd.prog 60 = false := by kernel_rfl
@[go_sem] theorem nk60 : nilKind Tryd.prog 60 = 3 := by kernel_rfl
@[go_sem] theorem zt60 : ztree Tryd.prog 60 = some (.lit .nilFunc) := by kernel_rfl
@[go_sem] theorem ty61 : tyInfo Tryd.prog 61 = some (false, 1) := by kernel_rfl
@[go_sem] theorem by61 : byteTy Tryd.prog 61 = false := by kernel_rfl
@[go_sem] theorem cc61 : Program.concrete Tryd.prog 61 = true := by kernel_rfl
@[go_sem] theorem st61 : strTy Tryd.prog 61 = false := by kernel_rfl
@[go_sem] theorem nk61 : nilKind Tryd.prog 61 = 3 := by kernel_rfl
@[go_sem] theorem zt61 : ztree Tryd.prog 61 = some (.lit .nilFunc) := by kernel_rfl
@[go_sem] theorem ty62 : tyInfo Tryd.prog 62 = some (false, 1) := by kernel_rfl
@[go_sem] theorem by62 : byteTy Tryd.prog 62 = false := by kernel_rfl
@[go_sem] theorem cc62 : Program.concrete Tryd.prog 62 = true := by kernel_rfl
@[go_sem] theorem st62 : strTy Tryd.prog 62 = false := by kernel_rfl
@[go_sem] theorem nk62 : nilKind Tryd.prog 62 = 3 := by kernel_rfl
@[go_sem] theorem zt62 : ztree Tryd.prog 62 = some (.lit .nilFunc) := by kernel_rfl
@[go_sem] theorem ty63 : tyInfo Tryd.prog 63 = some (false, 1) := by kernel_rfl
@[go_sem] theorem by63 : byteTy Tryd.prog 63 = false := by kernel_rfl
@[go_sem] theorem cc63 : Program.concrete Tryd.prog 63 = true := by kernel_rfl
@[go_sem] theorem st63 : strTy Tryd.prog 63 = false := by kernel_rfl
@[go_sem] theorem nk63 : nilKind Tryd.prog 63 = 3 := by kernel_rfl
@[go_sem] theorem zt63 : ztree Tryd.prog 63 = some (.lit .nilFunc) := by kernel_rfl
@[go_sem] theorem ty64 : tyInfo Tryd.prog 64 = some (false, 1) := by kernel_rfl
@[go_sem] theorem by64 : byteTy Tryd.prog 64 = false := by kernel_rfl
@[go_sem] theorem cc64 : Program.concrete Tryd.prog 64 = true := by kernel_rfl
@[go_sem] theorem st64 : strTy Tryd.prog 64 = false := by kernel_rfl
@[go_sem] theorem nk64 : nilKind Tryd.prog 64 = 3 := by kernel_rfl
@[go_sem] theorem zt64 : ztree Tryd.prog 64 = some (.lit .nilFunc) := by kernel_rfl
@[go_sem] theorem ty65 : tyInfo Tryd.prog 65 = some (false, 1) := by kernel_rfl
@[go_sem] theorem by65 : byteTy Tryd.prog 65 = false := by kernel_rfl
@[go_sem] theorem cc65 : Program.concrete Tryd.prog 65 = true := by kernel_rfl
@[go_sem] theorem st65 : strTy Tryd.prog 65 = false := by kernel_rfl
@[go_sem] theorem nk65 : nilKind Tryd.prog 65 = 3 := by kernel_rfl
@[go_sem] theorem zt65 : ztree Tryd.prog 65 = some (.lit .nilFunc) := by kernel_rfl
@[go_sem] theorem ty66 : tyInfo Tryd.prog 66 = some (false, 1) := by kernel_rfl
@[go_sem] theorem by66 : byteTy Tryd.prog 66 = false := by kernel_rfl
@[go_sem] theorem cc66 : Program.concrete Tryd.prog 66 = true := by kernel_rfl
@[go_sem] theorem st66 : strTy Tryd.prog 66 = false := by kernel_rfl
@[go_sem] theorem sl66 : sliceTy Tryd.prog 66 = some 49 := by kernel_rfl
@[go_sem] theorem si66 : sliceInfo Tryd.prog 66 = some (49, 8, 96, (.agg [(.agg (List.replicate 2 .nils)), (.lit (.int .i64 0)), (.lit (.int .i64 0)), (.lit (.int .i64 0)), (.lit (.int .i64 0)), (.lit (.int .i64 0)), (.lit (.bool false))])) := by kernel_rfl
@[go_sem] theorem nk66 : nilKind Tryd.prog 66 = 1 := by kernel_rfl
@[go_sem] theorem zt66 : ztree Tryd.prog 66 = some .nils := by kernel_rfl
@[go_sem] theorem ty67 : tyInfo Tryd.prog 67 = some (false, 1) := by kernel_rfl
@[go_sem] theorem by67 : byteTy Tryd.prog 67 = false := by kernel_rfl
@[go_sem] theorem cc67 : Program.concrete Tryd.prog 67 = true := by kernel_rfl
@[go_sem] theorem st67 : strTy Tryd.prog 67 = false := by kernel_rfl
@[go_sem] theorem nk67 : nilKind Tryd.prog 67 = 3 := by kernel_rfl
@[go_sem] theorem zt67 : ztree Tryd.prog 67 = some (.lit .nilFunc) := by kernel_rfl
@[go_sem] theorem ty68 : tyInfo Tryd.prog 68 = some (false, 1) := by kernel_rfl
@[go_sem] theorem by68 : byteTy Tryd.prog 68 = false := by kernel_rfl
@[go_sem] theorem cc68 : Program.concrete Tryd.prog 68 = true := by kernel_rfl
@[go_sem] theorem st68 : strTy Tryd.prog 68 = false := by kernel_rfl
@[go_sem] theorem nk68 : nilKind Tryd.prog 68 = 3 := by kernel_rfl
@[go_sem] theorem zt68 : ztree Tryd.prog 68 = some (.lit .nilFunc) := by kernel_rfl
@[go_sem] theorem ty69 : tyInfo Tryd.prog 69 = some (false, 1) := by kernel_rfl
@[go_sem] theorem by69 : byteTy Tryd.prog 69 = false := by kernel_rfl
@[go_sem] theorem cc69 : Program.concrete Tryd.prog 69 = true := by kernel_rfl
@[go_sem] theorem st69 : strTy Tryd.prog 69 = false := by kernel_rfl
@[go_sem] theorem nk69 : nilKind Tryd.prog 69 = 3 := by kernel_rfl
@[go_sem] theorem zt69 : ztree Tryd.prog 69 = some (.lit .nilFunc) := by kernel_rfl
@[go_sem] theorem ty70 : tyInfo Tryd.prog 70 = some (false, 1) := by kernel_rfl
@[go_sem] theorem by70 : byteTy Tryd.prog 70 = false := by kernel_rfl
@[go_sem] theorem cc70 : Program.concrete Tryd.prog 70 = true := by kernel_rfl
@[go_sem] theorem st70 : strTy Tryd.prog 70 = false := by kernel_rfl
@[go_sem] theorem nk70 : nilKind Tryd.prog 70 = 3 := by kernel_rfl
@[go_sem] theorem zt70 : ztree Tryd.prog 70 = some (.lit .nilFunc) := by kernel_rfl
@[go_sem] theorem ty71 : tyInfo Tryd.prog 71 = some (false, 1) := by kernel_rfl
@[go_sem] theorem by71 : byteTy Tryd.prog 71 = false := by kernel_rfl
@[go_sem] theorem cc71 : Program.concrete Tryd.prog 71 = true := by kernel_rfl
@[go_sem] theorem st71 : strTy Tryd.prog 71 = false := by kernel_rfl
@[go_sem] theorem nk71 : nilKind Tryd.prog 71 = 3 := by kernel_rfl
@[go_sem] theorem zt71 : ztree Tryd.prog 71 = some (.lit .nilFunc) := by kernel_rfl
@[go_sem] theorem ty73 : tyInfo Tryd.prog 73 = some (false, 1) := by kernel_rfl
@[go_sem] theorem by73 : byteTy Tryd.prog 73 = false := by kernel_rfl
@[go_sem] theorem cc73 : Program.concrete Tryd.prog 73 = true := by kernel_rfl
@[go_sem] theorem st73 : strTy Tryd.prog 73 = false := by kernel_rfl
@[go_sem] theorem nk73 : nilKind Tryd.prog 73 = 3 := by kernel_rfl
@[go_sem] theorem zt73 : ztree Tryd.prog 73 = some (.lit .nilFunc) := by kernel_rfl
@[go_sem] theorem ty74 : tyInfo Tryd.prog 74 = some (false, 1) := by kernel_rfl
@[go_sem] theorem by74 : byteTy Tryd.prog 74 = false := by kernel_rfl
@[go_sem] theorem cc74 : Program.concrete Tryd.prog 74 = true := by kernel_rfl
@[go_sem] theorem st74 : strTy Tryd.prog 74 = false := by kernel_rfl
@[go_sem] theorem nk74 : nilKind Tryd.prog 74 = 3 := by kernel_rfl
@[go_sem] theorem zt74 : ztree Tryd.prog 74 = some (.lit .nilFunc) := by kernel_rfl
@[go_sem] theorem ty75 : tyInfo Tryd.prog 75 = some (false, 1) := by kernel_rfl
@[go_sem] theorem by75 : byteTy Tryd.prog 75 = false := by kernel_rfl
@[go_sem] theorem cc75 : Program.concrete Tryd.prog 75 = true := by kernel_rfl
@[go_sem] theorem st75 : strTy Tryd.prog 75 = false := by kernel_rfl
@[go_sem] theorem nk75 : nilKind Tryd.prog 75 = 3 := by kernel_rfl
@[go_sem] theorem zt75 : ztree Tryd.prog 75 = some (.lit .nilFunc) := by kernel_rfl
@[go_sem] theorem ty76 : tyInfo Tryd.prog 76 = some (false, 1) := by kernel_rfl
@[go_sem] theorem by76 : byteTy Tryd.prog 76 = false := by kernel_rfl
@[go_sem] theorem cc76 : Program.concrete Tryd.prog 76 = true := by kernel_rfl
@[go_sem] theorem st76 : strTy Tryd.prog 76 = false := by kernel_rfl
@[go_sem] theorem nk76 : nilKind Tryd.prog 76 = 3 := by kernel_rfl
@[go_sem] theorem zt76 : ztree Tryd.prog 76 = some (.lit .nilFunc) := by kernel_rfl
@[go_sem] theorem ty77 : tyInfo Tryd.prog 77 = some (true, 2) := by kernel_rfl
@[go_sem] theorem by77 : byteTy Tryd.prog 77 = false := by kernel_rfl
@[go_sem] theorem cc77 : Program.concrete Tryd.prog 77 = true := by kernel_rfl
@[go_sem] theorem st77 : strTy Tryd.prog 77 = false := by kernel_rfl
@[go_sem] theorem zt77 : ztree Tryd.prog 77 = some (.agg [.nils, (.lit (.int .i64 0))]) := by kernel_rfl
@[go_sem] theorem sp77 : splaces Tryd.prog 77 = some [(0, 1), (1, 1)] := by kernel_rfl
@[go_sem] theorem fo77_0 : fieldOff Tryd.prog 77 0 = some 0 := by kernel_rfl
@[go_sem] theorem fo77_1 : fieldOff Tryd.prog 77 1 = some 1 := by kernel_rfl
@[go_sem] theorem ty78 : tyInfo Tryd.prog 78 = some (true, 2) := by kernel_rfl
@[go_sem] theorem by78 : byteTy Tryd.prog 78 = false := by kernel_rfl
@[go_sem] theorem cc78 : Program.concrete Tryd.prog 78 = true := by kernel_rfl
@[go_sem] theorem st78 : strTy Tryd.prog 78 = false := by kernel_rfl
@[go_sem] theorem zt78 : ztree Tryd.prog 78 = some (.agg [.nils, (.lit (.int .i64 0))]) := by kernel_rfl
@[go_sem] theorem sp78 : splaces Tryd.prog 78 = some [(0, 1), (1, 1)] := by kernel_rfl
@[go_sem] theorem fo78_0 : fieldOff Tryd.prog 78 0 = some 0 := by kernel_rfl
@[go_sem] theorem fo78_1 : fieldOff Tryd.prog 78 1 = some 1 := by kernel_rfl
@[go_sem] theorem ty79 : tyInfo Tryd.prog 79 = some (false, 1) := by kernel_rfl
@[go_sem] theorem by79 : byteTy Tryd.prog 79 = false := by kernel_rfl
@[go_sem] theorem cc79 : Program.concrete Tryd.prog 79 = true := by kernel_rfl
@[go_sem] theorem st79 : strTy Tryd.prog 79 = false := by kernel_rfl
@[go_sem] theorem nk79 : nilKind Tryd.prog 79 = 3 := by kernel_rfl
@[go_sem] theorem zt79 : ztree Tryd.prog 79 = some (.lit .nilFunc) := by kernel_rfl
@[go_sem] theorem ty80 : tyInfo Tryd.prog 80 = some (false, 1) := by kernel_rfl
@[go_sem] theorem by80 : byteTy Tryd.prog 80 = false := by kernel_rfl
@[go_sem] theorem cc80 : Program.concrete Tryd.prog 80 = true := by kernel_rfl
@[go_sem] theorem st80 : strTy Tryd.prog 80 = false := by kernel_rfl
@[go_sem] theorem nk80 : nilKind Tryd.prog 80 = 3 := by kernel_rfl
@[go_sem] theorem zt80 : ztree Tryd.prog 80 = some (.lit .nilFunc) := by kernel_rfl
@[go_sem] theorem ty81 : tyInfo Tryd.prog 81 = some (false, 1) := by kernel_rfl
@[go_sem] theorem by81 : byteTy Tryd.prog 81 = false := by kernel_rfl
@[go_sem] theorem cc81 : Program.concrete Tryd.prog 81 = true := by kernel_rfl
@[go_sem] theorem st81 : strTy Tryd.prog 81 = false := by kernel_rfl
@[go_sem] theorem nk81 : nilKind Tryd.prog 81 = 3 := by kernel_rfl
@[go_sem] theorem zt81 : ztree Tryd.prog 81 = some (.lit .nilFunc) := by kernel_rfl
@[go_sem] theorem ty82 : tyInfo Tryd.prog 82 = some (false, 1) := by kernel_rfl
@[go_sem] theorem by82 : byteTy Tryd.prog 82 = false := by kernel_rfl
@[go_sem] theorem cc82 : Program.concrete Tryd.prog 82 = true := by kernel_rfl
@[go_sem] theorem st82 : strTy Tryd.prog 82 = false := by kernel_rfl
@[go_sem] theorem nk82 : nilKind Tryd.prog 82 = 3 := by kernel_rfl
@[go_sem] theorem zt82 : ztree Tryd.prog 82 = some (.lit .nilFunc) := by kernel_rfl
@[go_sem] theorem ty83 : tyInfo Tryd.prog 83 = some (false, 1) := by kernel_rfl
@[go_sem] theorem by83 : byteTy Tryd.prog 83 = false := by kernel_rfl
@[go_sem] theorem cc83 : Program.concrete Tryd.prog 83 = true := by kernel_rfl
@[go_sem] theorem st83 : strTy Tryd.prog 83 = false := by kernel_rfl
@[go_sem] theorem nk83 : nilKind Tryd.prog 83 = 3 := by kernel_rfl
@[go_sem] theorem zt83 : ztree Tryd.prog 83 = some (.lit .nilFunc) := by kernel_rfl
@[go_sem] theorem ty84 : tyInfo Tryd.prog 84 = some (false, 1) := by kernel_rfl
@[go_sem] theorem by84 : byteTy Tryd.prog 84 = false := by kernel_rfl
@[go_sem] theorem cc84 : Program.concrete Tryd.prog 84 = true := by kernel_rfl
@[go_sem] theorem st84 : strTy Tryd.prog 84 = false := by kernel_rfl
@[go_sem] theorem nk84 : nilKind Tryd.prog 84 = 3 := by kernel_rfl
@[go_sem] theorem zt84 : ztree Tryd.prog 84 = some (.lit .nilFunc) := by kernel_rfl
@[go_sem] theorem ty85 : tyInfo Tryd.prog 85 = some (false, 1) := by kernel_rfl
@[go_sem] theorem by85 : byteTy Tryd.prog 85 = false := by kernel_rfl
@[go_sem] theorem cc85 : Program.concrete Tryd.prog 85 = true := by kernel_rfl
@[go_sem] theorem st85 : strTy Tryd.prog 85 = false := by kernel_rfl
@[go_sem] theorem nk85 : nilKind Tryd.prog 85 = 3 := by kernel_rfl
@[go_sem] theorem zt85 : ztree Tryd.prog 85 = some (.lit .nilFunc) := by kernel_rfl
@[go_sem] theorem ty86 : tyInfo Tryd.prog 86 = some (true, 32) := by kernel_rfl
@[go_sem] theorem by86 : byteTy Tryd.prog 86 = false := by kernel_rfl
@[go_sem] theorem cc86 : Program.concrete Tryd.prog 86 = true := by kernel_rfl
@[go_sem] theorem pa86 : ptrArr Tryd.prog 86 = some (32, 5, 1) := by kernel_rfl
@[go_sem] theorem st86 : strTy Tryd.prog 86 = false := by kernel_rfl
@[go_sem] theorem ar86 : arrInfo Tryd.prog 86 = some (32, 5, 1) := by kernel_rfl
@[go_sem] theorem sp86 : splaces Tryd.prog 86 = none := by kernel_rfl
@[go_sem] theorem zt86 : ztree Tryd.prog 86 = some (.agg ((List.replicate 32 (0 : UInt8)).map byteAV)) := by kernel_rfl
@[go_sem] theorem ty87 : tyInfo Tryd.prog 87 = some (true, 32) := by kernel_rfl
@[go_sem] theorem by87 : byteTy Tryd.prog 87 = false := by kernel_rfl
@[go_sem] theorem cc87 : Program.concrete Tryd.prog 87 = true := by kernel_rfl
@[go_sem] theorem eq87 : eqTop Tryd.prog 87 = some (.bytes 32) := by kernel_rfl
@[go_sem] theorem pa87 : ptrArr Tryd.prog 87 = some (32, 5, 1) := by kernel_rfl
@[go_sem] theorem st87 : strTy Tryd.prog 87 = false := by kernel_rfl
@[go_sem] theorem ar87 : arrInfo Tryd.prog 87 = some (32, 5, 1) := by kernel_rfl
@[go_sem] theorem sp87 : splaces Tryd.prog 87 = none := by kernel_rfl
@[go_sem] theorem zt87 : ztree Tryd.prog 87 = some (.agg ((List.replicate 32 (0 : UInt8)).map byteAV)) := by kernel_rfl
@[go_sem] theorem ty88 : tyInfo Tryd.prog 88 = some (false, 1) := by kernel_rfl
@[go_sem] theorem by88 : byteTy Tryd.prog 88 = false := by kernel_rfl
@[go_sem] theorem cc88 : Program.concrete Tryd.prog 88 = true := by kernel_rfl
@[go_sem] theorem st88 : strTy Tryd.prog 88 = false := by kernel_rfl
@[go_sem] theorem nk88 : nilKind Tryd.prog 88 = 3 := by kernel_rfl
@[go_sem] theorem zt88 : ztree Tryd.prog 88 = some (.lit .nilFunc) := by kernel_rfl
@[go_sem] theorem ty89 : tyInfo Tryd.prog 89 = some (false, 1) := by kernel_rfl
@[go_sem] theorem it89 : intTy Tryd.prog 89 = some .u64 := by kernel_rfl
@[go_sem] theorem by89 : byteTy Tryd.prog 89 = false := by kernel_rfl
@[go_sem] theorem cc89 : Program.concrete Tryd.prog 89 = true := by kernel_rfl
@[go_sem] theorem st89 : strTy Tryd.prog 89 = false := by kernel_rfl
@[go_sem] theorem zt89 : ztree Tryd.prog 89 = some (.lit (.int .u64 0)) := by kernel_rfl
@[go_sem] theorem ty90 : tyInfo Tryd.prog 90 = some (false, 1) := by kernel_rfl
@[go_sem] theorem by90 : byteTy Tryd.prog 90 = false := by kernel_rfl
@[go_sem] theorem cc90 : Program.concrete Tryd.prog 90 = true := by kernel_rfl
@[go_sem] theorem st90 : strTy Tryd.prog 90 = false := by kernel_rfl
@[go_sem] theorem nk90 : nilKind Tryd.prog 90 = 3 := by kernel_rfl
@[go_sem] theorem zt90 : ztree Tryd.prog 90 = some (.lit .nilFunc) := by kernel_rfl
@[go_sem] theorem ty91 : tyInfo Tryd.prog 91 = some (false, 1) := by kernel_rfl
@[go_sem] theorem by91 : byteTy Tryd.prog 91 = false := by kernel_rfl
@[go_sem] theorem cc91 : Program.concrete Tryd.prog 91 = true := by kernel_rfl
@[go_sem] theorem st91 : strTy Tryd.prog 91 = false := by kernel_rfl
@[go_sem] theorem nk91 : nilKind Tryd.prog 91 = 3 := by kernel_rfl
@[go_sem] theorem zt91 : ztree Tryd.prog 91 = some (.lit .nilFunc) := by kernel_rfl
@[go_sem] theorem ty93 : tyInfo Tryd.prog 93 = some (false, 1) := by kernel_rfl
@[go_sem] theorem by93 : byteTy Tryd.prog 93 = false := by kernel_rfl
@[go_sem] theorem cc93 : Program.concrete Tryd.prog 93 = true := by kernel_rfl
@[go_sem] theorem st93 : strTy Tryd.prog 93 = false := by kernel_rfl
@[go_sem] theorem nk93 : nilKind Tryd.prog 93 = 3 := by kernel_rfl
@[go_sem] theorem zt93 : ztree Tryd.prog 93 = some (.lit .nilFunc) := by kernel_rfl
@[go_sem] theorem ty94 : tyInfo Tryd.prog 94 = some (false, 1) := by kernel_rfl
@[go_sem] theorem by94 : byteTy Tryd.prog 94 = false := by kernel_rfl
@[go_sem] theorem cc94 : Program.concrete Tryd.prog 94 = true := by kernel_rfl
@[go_sem] theorem st94 : strTy Tryd.prog 94 = false := by kernel_rfl
@[go_sem] theorem nk94 : nilKind Tryd.prog 94 = 3 := by kernel_rfl
@[go_sem] theorem zt94 : ztree Tryd.prog 94 = some (.lit .nilFunc) := by kernel_rfl
@[go_sem] theorem ty95 : tyInfo Tryd.prog 95 = some (false, 1) := by kernel_rfl
@[go_sem] theorem by95 : byteTy Tryd.prog 95 = false := by kernel_rfl
@[go_sem] theorem cc95 : Program.concrete Tryd.prog 95 = true := by kernel_rfl
@[go_sem] theorem st95 : strTy Tryd.prog 95 = false := by kernel_rfl
@[go_sem] theorem nk95 : nilKind Tryd.prog 95 = 3 := by kernel_rfl
@[go_sem] theorem zt95 : ztree Tryd.prog 95 = some (.lit .nilFunc) := by kernel_rfl
@[go_sem] theorem ty96 : tyInfo Tryd.prog 96 = some (false, 1) := by kernel_rfl
@[go_sem] theorem by96 : byteTy Tryd.prog 96 = false := by kernel_rfl
@[go_sem] theorem cc96 : Program.concrete Tryd.prog 96 = true := by kernel_rfl
@[go_sem] theorem st96 : strTy Tryd.prog 96 = false := by kernel_rfl
@[go_sem] theorem nk96 : nilKind Tryd.prog 96 = 3 := by kernel_rfl
@[go_sem] theorem zt96 : ztree Tryd.prog 96 = some (.lit .nilFunc) := by kernel_rfl
@[go_sem] theorem ty97 : tyInfo Tryd.prog 97 = some (false, 1) := by kernel_rfl
@[go_sem] theorem by97 : byteTy Tryd.prog 97 = false := by kernel_rfl
@[go_sem] theorem cc97 : Program.concrete Tryd.prog 97 = true := by kernel_rfl
@[go_sem] theorem st97 : strTy Tryd.prog 97 = false := by kernel_rfl
@[go_sem] theorem nk97 : nilKind Tryd.prog 97 = 2 := by kernel_rfl
@[go_sem] theorem zt97 : ztree Tryd.prog 97 = some (.lit (.pointer none)) := by kernel_rfl
@[go_sem] theorem ty98 : tyInfo Tryd.prog 98 = some (true, 2) := by kernel_rfl
@[go_sem] theorem by98 : byteTy Tryd.prog 98 = false := by kernel_rfl
@[go_sem] theorem cc98 : Program.concrete Tryd.prog 98 = true := by kernel_rfl
@[go_sem] theorem st98 : strTy Tryd.prog 98 = false := by kernel_rfl
@[go_sem] theorem zt98 : ztree Tryd.prog 98 = some (.agg [.nils, (.lit (.int .i64 0))]) := by kernel_rfl
@[go_sem] theorem sp98 : splaces Tryd.prog 98 = some [(0, 1), (1, 1)] := by kernel_rfl
@[go_sem] theorem fo98_0 : fieldOff Tryd.prog 98 0 = some 0 := by kernel_rfl
@[go_sem] theorem fo98_1 : fieldOff Tryd.prog 98 1 = some 1 := by kernel_rfl
@[go_sem] theorem ty99 : tyInfo Tryd.prog 99 = some (true, 2) := by kernel_rfl
@[go_sem] theorem by99 : byteTy Tryd.prog 99 = false := by kernel_rfl
@[go_sem] theorem cc99 : Program.concrete Tryd.prog 99 = true := by kernel_rfl
@[go_sem] theorem st99 : strTy Tryd.prog 99 = false := by kernel_rfl
@[go_sem] theorem zt99 : ztree Tryd.prog 99 = some (.agg [.nils, (.lit (.int .i64 0))]) := by kernel_rfl
@[go_sem] theorem sp99 : splaces Tryd.prog 99 = some [(0, 1), (1, 1)] := by kernel_rfl
@[go_sem] theorem fo99_0 : fieldOff Tryd.prog 99 0 = some 0 := by kernel_rfl
@[go_sem] theorem fo99_1 : fieldOff Tryd.prog 99 1 = some 1 := by kernel_rfl
@[go_sem] theorem ty100 : tyInfo Tryd.prog 100 = some (true, 3) := by kernel_rfl
@[go_sem] theorem by100 : byteTy Tryd.prog 100 = false := by kernel_rfl
@[go_sem] theorem cc100 : Program.concrete Tryd.prog 100 = true := by kernel_rfl
@[go_sem] theorem st100 : strTy Tryd.prog 100 = false := by kernel_rfl
@[go_sem] theorem zt100 : ztree Tryd.prog 100 = some (.agg [(.agg [.nils, (.lit (.int .i64 0))]), (.lit (.int .i64 0))]) := by kernel_rfl
@[go_sem] theorem sp100 : splaces Tryd.prog 100 = some [(0, 2), (2, 1)] := by kernel_rfl
@[go_sem] theorem fo100_0 : fieldOff Tryd.prog 100 0 = some 0 := by kernel_rfl
@[go_sem] theorem fo100_1 : fieldOff Tryd.prog 100 1 = some 2 := by kernel_rfl
@[go_sem] theorem ty101 : tyInfo Tryd.prog 101 = some (true, 3) := by kernel_rfl
@[go_sem] theorem by101 : byteTy Tryd.prog 101 = false := by kernel_rfl
@[go_sem] theorem cc101 : Program.concrete Tryd.prog 101 = true := by kernel_rfl
@[go_sem] theorem st101 : strTy Tryd.prog 101 = false := by kernel_rfl
@[go_sem] theorem zt101 : ztree Tryd.prog 101 = some (.agg [(.agg [.nils, (.lit (.int .i64 0))]), (.lit (.int .i64 0))]) := by kernel_rfl
@[go_sem] theorem sp101 : splaces Tryd.prog 101 = some [(0, 2), (2, 1)] := by kernel_rfl
@[go_sem] theorem fo101_0 : fieldOff Tryd.prog 101 0 = some 0 := by kernel_rfl
@[go_sem] theorem fo101_1 : fieldOff Tryd.prog 101 1 = some 2 := by kernel_rfl
@[go_sem] theorem ty102 : tyInfo Tryd.prog 102 = some (false, 1) := by kernel_rfl
@[go_sem] theorem by102 : byteTy Tryd.prog 102 = false := by kernel_rfl
@[go_sem] theorem cc102 : Program.concrete Tryd.prog 102 = true := by kernel_rfl
@[go_sem] theorem st102 : strTy Tryd.prog 102 = false := by kernel_rfl
@[go_sem] theorem nk102 : nilKind Tryd.prog 102 = 3 := by kernel_rfl
@[go_sem] theorem zt102 : ztree Tryd.prog 102 = some (.lit .nilFunc) := by kernel_rfl
@[go_sem] theorem ty103 : tyInfo Tryd.prog 103 = some (false, 1) := by kernel_rfl
@[go_sem] theorem by103 : byteTy Tryd.prog 103 = false := by kernel_rfl
@[go_sem] theorem cc103 : Program.concrete Tryd.prog 103 = true := by kernel_rfl
@[go_sem] theorem st103 : strTy Tryd.prog 103 = false := by kernel_rfl
@[go_sem] theorem nk103 : nilKind Tryd.prog 103 = 3 := by kernel_rfl
@[go_sem] theorem zt103 : ztree Tryd.prog 103 = some (.lit .nilFunc) := by kernel_rfl
@[go_sem] theorem ty104 : tyInfo Tryd.prog 104 = some (false, 1) := by kernel_rfl
@[go_sem] theorem by104 : byteTy Tryd.prog 104 = false := by kernel_rfl
@[go_sem] theorem cc104 : Program.concrete Tryd.prog 104 = true := by kernel_rfl
@[go_sem] theorem st104 : strTy Tryd.prog 104 = false := by kernel_rfl
@[go_sem] theorem nk104 : nilKind Tryd.prog 104 = 3 := by kernel_rfl
@[go_sem] theorem zt104 : ztree Tryd.prog 104 = some (.lit .nilFunc) := by kernel_rfl
@[go_sem] theorem ty105 : tyInfo Tryd.prog 105 = some (false, 1) := by kernel_rfl
@[go_sem] theorem by105 : byteTy Tryd.prog 105 = false := by kernel_rfl
@[go_sem] theorem cc105 : Program.concrete Tryd.prog 105 = true := by kernel_rfl
@[go_sem] theorem st105 : strTy Tryd.prog 105 = false := by kernel_rfl
@[go_sem] theorem nk105 : nilKind Tryd.prog 105 = 2 := by kernel_rfl
@[go_sem] theorem zt105 : ztree Tryd.prog 105 = some (.lit (.pointer none)) := by kernel_rfl
@[go_sem] theorem ty106 : tyInfo Tryd.prog 106 = some (true, 3) := by kernel_rfl
@[go_sem] theorem by106 : byteTy Tryd.prog 106 = false := by kernel_rfl
@[go_sem] theorem cc106 : Program.concrete Tryd.prog 106 = true := by kernel_rfl
@[go_sem] theorem st106 : strTy Tryd.prog 106 = false := by kernel_rfl
@[go_sem] theorem zt106 : ztree Tryd.prog 106 = some (.agg [.nils, (.lit (.int .i64 0)), (.lit (.int .i64 0))]) := by kernel_rfl
@[go_sem] theorem sp106 : splaces Tryd.prog 106 = some [(0, 1), (1, 1), (2, 1)] := by kernel_rfl
@[go_sem] theorem fo106_0 : fieldOff Tryd.prog 106 0 = some 0 := by kernel_rfl
@[go_sem] theorem fo106_1 : fieldOff Tryd.prog 106 1 = some 1 := by kernel_rfl
@[go_sem] theorem fo106_2 : fieldOff Tryd.prog 106 2 = some 2 := by kernel_rfl
@[go_sem] theorem ty107 : tyInfo Tryd.prog 107 = some (true, 3) := by kernel_rfl
@[go_sem] theorem by107 : byteTy Tryd.prog 107 = false := by kernel_rfl
@[go_sem] theorem cc107 : Program.concrete Tryd.prog 107 = true := by kernel_rfl
@[go_sem] theorem st107 : strTy Tryd.prog 107 = false := by kernel_rfl
@[go_sem] theorem zt107 : ztree Tryd.prog 107 = some (.agg [.nils, (.lit (.int .i64 0)), (.lit (.int .i64 0))]) := by kernel_rfl
@[go_sem] theorem sp107 : splaces Tryd.prog 107 = some [(0, 1), (1, 1), (2, 1)] := by kernel_rfl
@[go_sem] theorem fo107_0 : fieldOff Tryd.prog 107 0 = some 0 := by kernel_rfl
@[go_sem] theorem fo107_1 : fieldOff Tryd.prog 107 1 = some 1 := by kernel_rfl
@[go_sem] theorem fo107_2 : fieldOff Tryd.prog 107 2 = some 2 := by kernel_rfl
@[go_sem] theorem ty108 : tyInfo Tryd.prog 108 = some (false, 1) := by kernel_rfl
@[go_sem] theorem by108 : byteTy Tryd.prog 108 = false := by kernel_rfl
@[go_sem] theorem cc108 : Program.concrete Tryd.prog 108 = true := by kernel_rfl
@[go_sem] theorem st108 : strTy Tryd.prog 108 = false := by kernel_rfl
@[go_sem] theorem nk108 : nilKind Tryd.prog 108 = 3 := by kernel_rfl
@[go_sem] theorem zt108 : ztree Tryd.prog 108 = some (.lit .nilFunc) := by kernel_rfl
@[go_sem] theorem ty109 : tyInfo Tryd.prog 109 = some (false, 1) := by kernel_rfl
@[go_sem] theorem by109 : byteTy Tryd.prog 109 = false := by kernel_rfl
@[go_sem] theorem cc109 : Program.concrete Tryd.prog 109 = true := by kernel_rfl
@[go_sem] theorem st109 : strTy Tryd.prog 109 = false := by kernel_rfl
@[go_sem] theorem nk109 : nilKind Tryd.prog 109 = 3 := by kernel_rfl
@[go_sem] theorem zt109 : ztree Tryd.prog 109 = some (.lit .nilFunc) := by kernel_rfl
@[go_sem] theorem ty110 : tyInfo Tryd.prog 110 = some (false, 1) := by kernel_rfl
@[go_sem] theorem by110 : byteTy Tryd.prog 110 = false := by kernel_rfl
@[go_sem] theorem cc110 : Program.concrete Tryd.prog 110 = true := by kernel_rfl
@[go_sem] theorem st110 : strTy Tryd.prog 110 = false := by kernel_rfl
@[go_sem] theorem nk110 : nilKind Tryd.prog 110 = 3 := by kernel_rfl
@[go_sem] theorem zt110 : ztree Tryd.prog 110 = some (.lit .nilFunc) := by kernel_rfl
@[go_sem] theorem ty111 : tyInfo Tryd.prog 111 = some (false, 1) := by kernel_rfl
@[go_sem] theorem by111 : byteTy Tryd.prog 111 = false := by kernel_rfl
@[go_sem] theorem cc111 : Program.concrete Tryd.prog 111 = true := by kernel_rfl
@[go_sem] theorem st111 : strTy Tryd.prog 111 = false := by kernel_rfl
@[go_sem] theorem nk111 : nilKind Tryd.prog 111 = 3 := by kernel_rfl
@[go_sem] theorem zt111 : ztree Tryd.prog 111 = some (.lit .nilFunc) := by kernel_rfl
@[go_sem] theorem ty112 : tyInfo Tryd.prog 112 = some (true, 8) := by kernel_rfl
@[go_sem] theorem by112 : byteTy Tryd.prog 112 = false := by kernel_rfl
@[go_sem] theorem cc112 : Program.concrete Tryd.prog 112 = true := by kernel_rfl
@[go_sem] theorem pa112 : ptrArr Tryd.prog 112 = some (8, 3, 1) := by kernel_rfl
@[go_sem] theorem st112 : strTy Tryd.prog 112 = false := by kernel_rfl
@[go_sem] theorem ar112 : arrInfo Tryd.prog 112 = some (8, 3, 1) := by kernel_rfl
@[go_sem] theorem sp112 : splaces Tryd.prog 112 = none := by kernel_rfl
@[go_sem] theorem zt112 : ztree Tryd.prog 112 = some (.agg (List.replicate 8 (.lit (.int .i64 0)))) := by kernel_rfl
@[go_sem] theorem ty113 : tyInfo Tryd.prog 113 = some (false, 1) := by kernel_rfl
@[go_sem] theorem by113 : byteTy Tryd.prog 113 = false := by kernel_rfl
@[go_sem] theorem cc113 : Program.concrete Tryd.prog 113 = true := by kernel_rfl
@[go_sem] theorem st113 : strTy Tryd.prog 113 = false := by kernel_rfl
@[go_sem] theorem nk113 : nilKind Tryd.prog 113 = 3 := by kernel_rfl
@[go_sem] theorem zt113 : ztree Tryd.prog 113 = some (.lit .nilFunc) := by kernel_rfl
@[go_sem] theorem ty114 : tyInfo Tryd.prog 114 = some (false, 1) := by kernel_rfl
@[go_sem] theorem by114 : byteTy Tryd.prog 114 = false := by kernel_rfl
@[go_sem] theorem cc114 : Program.concrete Tryd.prog 114 = true := by kernel_rfl
@[go_sem] theorem st114 : strTy Tryd.prog 114 = false := by kernel_rfl
@[go_sem] theorem nk114 : nilKind Tryd.prog 114 = 3 := by kernel_rfl
@[go_sem] theorem zt114 : ztree Tryd.prog 114 = some (.lit .nilFunc) := by kernel_rfl
@[go_sem] theorem ty115 : tyInfo Tryd.prog 115 = some (false, 1) := by kernel_rfl
@[go_sem] theorem it115 : intTy Tryd.prog 115 = some .u32 := by kernel_rfl
@[go_sem] theorem by115 : byteTy Tryd.prog 115 = false := by kernel_rfl
@[go_sem] theorem cc115 : Program.concrete Tryd.prog 115 = true := by kernel_rfl
@[go_sem] theorem st115 : strTy Tryd.prog 115 = false := by kernel_rfl
@[go_sem] theorem zt115 : ztree Tryd.prog 115 = some (.lit (.int .u32 0)) := by kernel_rfl
@[go_sem] theorem ty116 : tyInfo Tryd.prog 116 = some (true, 8) := by kernel_rfl
@[go_sem] theorem by116 : byteTy Tryd.prog 116 = false := by kernel_rfl
@[go_sem] theorem cc116 : Program.concrete Tryd.prog 116 = true := by kernel_rfl
@[go_sem] theorem pa116 : ptrArr Tryd.prog 116 = some (8, 115, 1) := by kernel_rfl
@[go_sem] theorem st116 : strTy Tryd.prog 116 = false := by kernel_rfl
@[go_sem] theorem ar116 : arrInfo Tryd.prog 116 = some (8, 115, 1) := by kernel_rfl
@[go_sem] theorem sp116 : splaces Tryd.prog 116 = none := by kernel_rfl
@[go_sem] theorem zt116 : ztree Tryd.prog 116 = some (.agg (List.replicate 8 (.lit (.int .u32 0)))) := by kernel_rfl
@[go_sem] theorem ty117 : tyInfo Tryd.prog 117 = some (true, 10) := by kernel_rfl
@[go_sem] theorem by117 : byteTy Tryd.prog 117 = false := by kernel_rfl
@[go_sem] theorem cc117 : Program.concrete Tryd.prog 117 = true := by kernel_rfl
@[go_sem] theorem st117 : strTy Tryd.prog 117 = false := by kernel_rfl
@[go_sem] theorem zt117 : ztree Tryd.prog 117 = some (.agg [(.agg (List.replicate 8 (.lit (.int .u32 0)))), .nils, (.lit (.int .i64 0))]) := by kernel_rfl
@[go_sem] theorem sp117 : splaces Tryd.prog 117 = some [(0, 8), (8, 1), (9, 1)] := by kernel_rfl
@[go_sem] theorem fo117_0 : fieldOff Tryd.prog 117 0 = some 0 := by kernel_rfl
@[go_sem] theorem fo117_1 : fieldOff Tryd.prog 117 1 = some 8 := by kernel_rfl
@[go_sem] theorem fo117_2 : fieldOff Tryd.prog 117 2 = some 9 := by kernel_rfl
@[go_sem] theorem ty118 : tyInfo Tryd.prog 118 = some (true, 10) := by kernel_rfl
@[go_sem] theorem by118 : byteTy Tryd.prog 118 = false := by kernel_rfl
@[go_sem] theorem cc118 : Program.concrete Tryd.prog 118 = true := by kernel_rfl
@[go_sem] theorem st118 : strTy Tryd.prog 118 = false := by kernel_rfl
@[go_sem] theorem zt118 : ztree Tryd.prog 118 = some (.agg [(.agg (List.replicate 8 (.lit (.int .u32 0)))), .nils, (.lit (.int .i64 0))]) := by kernel_rfl
@[go_sem] theorem sp118 : splaces Tryd.prog 118 = some [(0, 8), (8, 1), (9, 1)] := by kernel_rfl
@[go_sem] theorem fo118_0 : fieldOff Tryd.prog 118 0 = some 0 := by kernel_rfl
@[go_sem] theorem fo118_1 : fieldOff Tryd.prog 118 1 = some 8 := by kernel_rfl
@[go_sem] theorem fo118_2 : fieldOff Tryd.prog 118 2 = some 9 := by kernel_rfl
@[go_sem] theorem ty119 : tyInfo Tryd.prog 119 = some (false, 1) := by kernel_rfl
@[go_sem] theorem by119 : byteTy Tryd.prog 119 = false := by kernel_rfl
@[go_sem] theorem cc119 : Program.concrete Tryd.prog 119 = true := by kernel_rfl
@[go_sem] theorem st119 : strTy Tryd.prog 119 = false := by kernel_rfl
@[go_sem] theorem nk119 : nilKind Tryd.prog 119 = 3 := by kernel_rfl
@[go_sem] theorem zt119 : ztree Tryd.prog 119 = some (.lit .nilFunc) := by kernel_rfl
@[go_sem] theorem ty120 : tyInfo Tryd.prog 120 = some (false, 1) := by kernel_rfl
@[go_sem] theorem by120 : byteTy Tryd.prog 120 = false := by kernel_rfl
@[go_sem] theorem cc120 : Program.concrete Tryd.prog 120 = true := by kernel_rfl
@[go_sem] theorem st120 : strTy Tryd.prog 120 = false := by kernel_rfl
@[go_sem] theorem nk120 : nilKind Tryd.prog 120 = 3 := by kernel_rfl
@[go_sem] theorem zt120 : ztree Tryd.prog 120 = some (.lit .nilFunc) := by kernel_rfl
@[go_sem] theorem ty121 : tyInfo Tryd.prog 121 = some (false, 1) := by kernel_rfl
@[go_sem] theorem by121 : byteTy Tryd.prog 121 = false := by kernel_rfl
@[go_sem] theorem cc121 : Program.concrete Tryd.prog 121 = true := by kernel_rfl
@[go_sem] theorem st121 : strTy Tryd.prog 121 = false := by kernel_rfl
@[go_sem] theorem nk121 : nilKind Tryd.prog 121 = 3 := by kernel_rfl
@[go_sem] theorem zt121 : ztree Tryd.prog 121 = some (.lit .nilFunc) := by kernel_rfl
@[go_sem] theorem ty122 : tyInfo Tryd.prog 122 = some (false, 1) := by kernel_rfl
@[go_sem] theorem by122 : byteTy Tryd.prog 122 = false := by kernel_rfl
@[go_sem] theorem cc122 : Program.concrete Tryd.prog 122 = true := by kernel_rfl
@[go_sem] theorem st122 : strTy Tryd.prog 122 = false := by kernel_rfl
@[go_sem] theorem nk122 : nilKind Tryd.prog 122 = 3 := by kernel_rfl
@[go_sem] theorem zt122 : ztree Tryd.prog 122 = some (.lit .nilFunc) := by kernel_rfl
@[go_sem] theorem ty123 : tyInfo Tryd.prog 123 = some (false, 1) := by kernel_rfl
@[go_sem] theorem by123 : byteTy Tryd.prog 123 = false := by kernel_rfl
@[go_sem] theorem cc123 : Program.concrete Tryd.prog 123 = true := by kernel_rfl
@[go_sem] theorem st123 : strTy Tryd.prog 123 = false := by kernel_rfl
@[go_sem] theorem nk123 : nilKind Tryd.prog 123 = 3 := by kernel_rfl
@[go_sem] theorem zt123 : ztree Tryd.prog 123 = some (.lit .nilFunc) := by kernel_rfl
@[go_sem] theorem ty124 : tyInfo Tryd.prog 124 = some (false, 1) := by kernel_rfl
@[go_sem] theorem by124 : byteTy Tryd.prog 124 = false := by kernel_rfl
@[go_sem] theorem cc124 : Program.concrete Tryd.prog 124 = true := by kernel_rfl
@[go_sem] theorem st124 : strTy Tryd.prog 124 = false := by kernel_rfl
@[go_sem] theorem nk124 : nilKind Tryd.prog 124 = 3 := by kernel_rfl
@[go_sem] theorem zt124 : ztree Tryd.prog 124 = some (.lit .nilFunc) := by kernel_rfl
@[go_sem] theorem ty125 : tyInfo Tryd.prog 125 = some (false, 1) := by kernel_rfl
@[go_sem] theorem by125 : byteTy Tryd.prog 125 = false := by kernel_rfl
@[go_sem] theorem cc125 : Program.concrete Tryd.prog 125 = true := by kernel_rfl
@[go_sem] theorem st125 : strTy Tryd.prog 125 = false := by kernel_rfl
@[go_sem] theorem nk125 : nilKind Tryd.prog 125 = 3 := by kernel_rfl
@[go_sem] theorem zt125 : ztree Tryd.prog 125 = some (.lit .nilFunc) := by kernel_rfl
@[go_sem] theorem ty127 : tyInfo Tryd.prog 127 = some (false, 1) := by kernel_rfl
@[go_sem] theorem by127 : byteTy Tryd.prog 127 = false := by kernel_rfl
@[go_sem] theorem cc127 : Program.concrete Tryd.prog 127 = true := by kernel_rfl
@[go_sem] theorem st127 : strTy Tryd.prog 127 = false := by kernel_rfl
@[go_sem] theorem nk127 : nilKind Tryd.prog 127 = 3 := by kernel_rfl
@[go_sem] theorem zt127 : ztree Tryd.prog 127 = some (.lit .nilFunc) := by kernel_rfl
@[go_sem] theorem ty129 : tyInfo Tryd.prog 129 = some (false, 1) := by kernel_rfl
@[go_sem] theorem by129 : byteTy Tryd.prog 129 = false := by kernel_rfl
@[go_sem] theorem cc129 : Program.concrete Tryd.prog 129 = true := by kernel_rfl
@[go_sem] theorem st129 : strTy Tryd.prog 129 = false := by kernel_rfl
@[go_sem] theorem nk129 : nilKind Tryd.prog 129 = 3 := by kernel_rfl
@[go_sem] theorem zt129 : ztree Tryd.prog 129 = some (.lit .nilFunc) := by kernel_rfl
@[go_sem] theorem ty131 : tyInfo Tryd.prog 131 = some (false, 1) := by kernel_rfl
@[go_sem] theorem by131 : byteTy Tryd.prog 131 = false := by kernel_rfl
@[go_sem] theorem cc131 : Program.concrete Tryd.prog 131 = true := by kernel_rfl
@[go_sem] theorem st131 : strTy Tryd.prog 131 = false := by kernel_rfl
@[go_sem] theorem nk131 : nilKind Tryd.prog 131 = 3 := by kernel_rfl
@[go_sem] theorem zt131 : ztree Tryd.prog 131 = some (.lit .nilFunc) := by kernel_rfl
@[go_sem] theorem ty132 : tyInfo Tryd.prog 132 = some (false, 1) := by kernel_rfl
@[go_sem] theorem by132 : byteTy Tryd.prog 132 = false := by kernel_rfl
@[go_sem] theorem cc132 : Program.concrete Tryd.prog 132 = true := by kernel_rfl
@[go_sem] theorem st132 : strTy Tryd.prog 132 = false := by kernel_rfl
@[go_sem] theorem sl132 : sliceTy Tryd.prog 132 = some 9 := by kernel_rfl
@[go_sem] theorem si132 : sliceInfo Tryd.prog 132 = some (9, 1, 16, (.lit (.string ByteArray.empty))) := by kernel_rfl
@[go_sem] theorem nk132 : nilKind Tryd.prog 132 = 1 := by kernel_rfl
@[go_sem] theorem zt132 : ztree Tryd.prog 132 = some .nils := by kernel_rfl
@[go_sem] theorem ty133 : tyInfo Tryd.prog 133 = some (false, 1) := by kernel_rfl
@[go_sem] theorem by133 : byteTy Tryd.prog 133 = false := by kernel_rfl
@[go_sem] theorem cc133 : Program.concrete Tryd.prog 133 = true := by kernel_rfl
@[go_sem] theorem st133 : strTy Tryd.prog 133 = false := by kernel_rfl
@[go_sem] theorem nk133 : nilKind Tryd.prog 133 = 3 := by kernel_rfl
@[go_sem] theorem zt133 : ztree Tryd.prog 133 = some (.lit .nilFunc) := by kernel_rfl
@[go_sem] theorem ty134 : tyInfo Tryd.prog 134 = some (true, 64) := by kernel_rfl
@[go_sem] theorem by134 : byteTy Tryd.prog 134 = false := by kernel_rfl
@[go_sem] theorem cc134 : Program.concrete Tryd.prog 134 = true := by kernel_rfl
@[go_sem] theorem pa134 : ptrArr Tryd.prog 134 = some (64, 115, 1) := by kernel_rfl
@[go_sem] theorem st134 : strTy Tryd.prog 134 = false := by kernel_rfl
@[go_sem] theorem ar134 : arrInfo Tryd.prog 134 = some (64, 115, 1) := by kernel_rfl
@[go_sem] theorem sp134 : splaces Tryd.prog 134 = none := by kernel_rfl
@[go_sem] theorem zt134 : ztree Tryd.prog 134 = some (.agg (List.replicate 64 (.lit (.int .u32 0)))) := by kernel_rfl
@[go_sem] theorem ty135 : tyInfo Tryd.prog 135 = some (false, 1) := by kernel_rfl
@[go_sem] theorem by135 : byteTy Tryd.prog 135 = false := by kernel_rfl
@[go_sem] theorem cc135 : Program.concrete Tryd.prog 135 = true := by kernel_rfl
@[go_sem] theorem st135 : strTy Tryd.prog 135 = false := by kernel_rfl
@[go_sem] theorem nk135 : nilKind Tryd.prog 135 = 3 := by kernel_rfl
@[go_sem] theorem zt135 : ztree Tryd.prog 135 = some (.lit .nilFunc) := by kernel_rfl
@[go_sem] theorem ty136 : tyInfo Tryd.prog 136 = some (false, 1) := by kernel_rfl
@[go_sem] theorem by136 : byteTy Tryd.prog 136 = false := by kernel_rfl
@[go_sem] theorem cc136 : Program.concrete Tryd.prog 136 = true := by kernel_rfl
@[go_sem] theorem st136 : strTy Tryd.prog 136 = false := by kernel_rfl
@[go_sem] theorem nk136 : nilKind Tryd.prog 136 = 3 := by kernel_rfl
@[go_sem] theorem zt136 : ztree Tryd.prog 136 = some (.lit .nilFunc) := by kernel_rfl
@[go_sem] theorem ty137 : tyInfo Tryd.prog 137 = some (false, 1) := by kernel_rfl
@[go_sem] theorem by137 : byteTy Tryd.prog 137 = false := by kernel_rfl
@[go_sem] theorem cc137 : Program.concrete Tryd.prog 137 = true := by kernel_rfl
@[go_sem] theorem st137 : strTy Tryd.prog 137 = false := by kernel_rfl
@[go_sem] theorem nk137 : nilKind Tryd.prog 137 = 2 := by kernel_rfl
@[go_sem] theorem zt137 : ztree Tryd.prog 137 = some (.lit (.pointer none)) := by kernel_rfl
@[go_sem] theorem ty138 : tyInfo Tryd.prog 138 = some (false, 1) := by kernel_rfl
@[go_sem] theorem by138 : byteTy Tryd.prog 138 = false := by kernel_rfl
@[go_sem] theorem cc138 : Program.concrete Tryd.prog 138 = true := by kernel_rfl
@[go_sem] theorem st138 : strTy Tryd.prog 138 = false := by kernel_rfl
@[go_sem] theorem nk138 : nilKind Tryd.prog 138 = 2 := by kernel_rfl
@[go_sem] theorem zt138 : ztree Tryd.prog 138 = some (.lit (.pointer none)) := by kernel_rfl
@[go_sem] theorem ty139 : tyInfo Tryd.prog 139 = some (true, 3) := by kernel_rfl
@[go_sem] theorem by139 : byteTy Tryd.prog 139 = false := by kernel_rfl
@[go_sem] theorem cc139 : Program.concrete Tryd.prog 139 = true := by kernel_rfl
@[go_sem] theorem st139 : strTy Tryd.prog 139 = false := by kernel_rfl
@[go_sem] theorem zt139 : ztree Tryd.prog 139 = some (.agg [.nils, (.lit (.int .i64 0)), (.lit (.int .i64 0))]) := by kernel_rfl
@[go_sem] theorem sp139 : splaces Tryd.prog 139 = some [(0, 1), (1, 1), (2, 1)] := by kernel_rfl
@[go_sem] theorem fo139_0 : fieldOff Tryd.prog 139 0 = some 0 := by kernel_rfl
@[go_sem] theorem fo139_1 : fieldOff Tryd.prog 139 1 = some 1 := by kernel_rfl
@[go_sem] theorem fo139_2 : fieldOff Tryd.prog 139 2 = some 2 := by kernel_rfl
@[go_sem] theorem ty140 : tyInfo Tryd.prog 140 = some (true, 3) := by kernel_rfl
@[go_sem] theorem by140 : byteTy Tryd.prog 140 = false := by kernel_rfl
@[go_sem] theorem cc140 : Program.concrete Tryd.prog 140 = true := by kernel_rfl
@[go_sem] theorem st140 : strTy Tryd.prog 140 = false := by kernel_rfl
@[go_sem] theorem zt140 : ztree Tryd.prog 140 = some (.agg [.nils, (.lit (.int .i64 0)), (.lit (.int .i64 0))]) := by kernel_rfl
@[go_sem] theorem sp140 : splaces Tryd.prog 140 = some [(0, 1), (1, 1), (2, 1)] := by kernel_rfl
@[go_sem] theorem fo140_0 : fieldOff Tryd.prog 140 0 = some 0 := by kernel_rfl
@[go_sem] theorem fo140_1 : fieldOff Tryd.prog 140 1 = some 1 := by kernel_rfl
@[go_sem] theorem fo140_2 : fieldOff Tryd.prog 140 2 = some 2 := by kernel_rfl
@[go_sem] theorem ty141 : tyInfo Tryd.prog 141 = some (false, 1) := by kernel_rfl
@[go_sem] theorem by141 : byteTy Tryd.prog 141 = false := by kernel_rfl
@[go_sem] theorem cc141 : Program.concrete Tryd.prog 141 = true := by kernel_rfl
@[go_sem] theorem st141 : strTy Tryd.prog 141 = false := by kernel_rfl
@[go_sem] theorem nk141 : nilKind Tryd.prog 141 = 3 := by kernel_rfl
@[go_sem] theorem zt141 : ztree Tryd.prog 141 = some (.lit .nilFunc) := by kernel_rfl
@[go_sem] theorem ty142 : tyInfo Tryd.prog 142 = some (false, 1) := by kernel_rfl
@[go_sem] theorem by142 : byteTy Tryd.prog 142 = false := by kernel_rfl
@[go_sem] theorem cc142 : Program.concrete Tryd.prog 142 = true := by kernel_rfl
@[go_sem] theorem st142 : strTy Tryd.prog 142 = false := by kernel_rfl
@[go_sem] theorem nk142 : nilKind Tryd.prog 142 = 3 := by kernel_rfl
@[go_sem] theorem zt142 : ztree Tryd.prog 142 = some (.lit .nilFunc) := by kernel_rfl
@[go_sem] theorem ty143 : tyInfo Tryd.prog 143 = some (false, 1) := by kernel_rfl
@[go_sem] theorem by143 : byteTy Tryd.prog 143 = false := by kernel_rfl
@[go_sem] theorem cc143 : Program.concrete Tryd.prog 143 = true := by kernel_rfl
@[go_sem] theorem st143 : strTy Tryd.prog 143 = false := by kernel_rfl
@[go_sem] theorem nk143 : nilKind Tryd.prog 143 = 3 := by kernel_rfl
@[go_sem] theorem zt143 : ztree Tryd.prog 143 = some (.lit .nilFunc) := by kernel_rfl
@[go_sem] theorem ty144 : tyInfo Tryd.prog 144 = some (false, 1) := by kernel_rfl
@[go_sem] theorem by144 : byteTy Tryd.prog 144 = false := by kernel_rfl
@[go_sem] theorem cc144 : Program.concrete Tryd.prog 144 = true := by kernel_rfl
@[go_sem] theorem st144 : strTy Tryd.prog 144 = false := by kernel_rfl
@[go_sem] theorem nk144 : nilKind Tryd.prog 144 = 3 := by kernel_rfl
@[go_sem] theorem zt144 : ztree Tryd.prog 144 = some (.lit .nilFunc) := by kernel_rfl
@[go_sem] theorem ty153 : tyInfo Tryd.prog 153 = some (false, 1) := by kernel_rfl
@[go_sem] theorem by153 : byteTy Tryd.prog 153 = false := by kernel_rfl
@[go_sem] theorem cc153 : Program.concrete Tryd.prog 153 = true := by kernel_rfl
@[go_sem] theorem st153 : strTy Tryd.prog 153 = false := by kernel_rfl
@[go_sem] theorem nk153 : nilKind Tryd.prog 153 = 2 := by kernel_rfl
@[go_sem] theorem zt153 : ztree Tryd.prog 153 = some (.lit (.pointer none)) := by kernel_rfl
end Go.Proofs.YtaelnglalpiemaaDoor

/- SHA-256: words, rotations. -/
namespace Go.Proofs.YtaelnglalpiemaaDoor
open Go.Ab
attribute [local irreducible] Go.Ab.tyAV Go.Ab.aw Go.Ab.aops Go.Ab.kReg Go.Ab.aThen Go.Ab.aBlk Go.Ab.acond Go.Ab.aguard Go.Ab.astep Go.Ab.AStepX Go.Ab.aRet

/-- The operations on words, under names that nobody can look behind (a product with a great numeral must never be compared with anything). -/
structure W32 where
  cv : Int → Int
  shw : Nat → Int → Int
  o32 : Int → Int → Int
  x32 : Int → Int → Int
  n32 : Int → Int → Int
  rotr : Int → Nat → Int
  cv_h : ∀ x, IntKind.u32.wrap x = cv x
  shw_h : ∀ n x, IntKind.u32.wrap (x * 2 ^ n) = shw n x
  o32_h : ∀ a b, bits .or .u32 a b = o32 a b
  x32_h : ∀ a b, bits .xor .u32 a b = x32 a b
  n32_h : ∀ a b, bits .and .u32 a b = n32 a b
  rotr_h : ∀ x n, bits .or .u32 (IntKind.u32.wrap (x * 2 ^ (32 - n))) (x.fdiv (2 ^ n)) = rotr x n
attribute [class] W32
/-- They are there. -/
@[reducible] def w32 : W32 where
  cv x := IntKind.u32.wrap x
  shw n x := IntKind.u32.wrap (x * 2 ^ n)
  o32 a b := bits .or .u32 a b
  x32 a b := bits .xor .u32 a b
  n32 a b := bits .and .u32 a b
  rotr x n := bits .or .u32 (IntKind.u32.wrap (x * 2 ^ (32 - n))) (x.fdiv (2 ^ n))
  cv_h _ := rfl
  shw_h _ _ := rfl
  o32_h _ _ := rfl
  x32_h _ _ := rfl
  n32_h _ _ := rfl
  rotr_h _ _ := rfl
def rot0 (x : Int) (n : Nat) : Int := bits .or .u32 (IntKind.u32.wrap (x * 2 ^ (32 - n))) (x.fdiv (2 ^ n))
theorem or32_comm (a b : Int) : bits .or .u32 a b = bits .or .u32 b a := by simp [bits, BitVec.or_comm]
theorem rot_and : (bits .and .u64 18446744073709551614 31 = 30) ∧ (bits .and .u64 18446744073709551610 31 = 26) ∧ (bits .and .u64 18446744073709551609 31 = 25) ∧ (bits .and .u64 18446744073709551605 31 = 21) ∧ (bits .and .u64 18446744073709551603 31 = 19) ∧ (bits .and .u64 18446744073709551599 31 = 15) ∧ (bits .and .u64 18446744073709551598 31 = 14) ∧ (bits .and .u64 18446744073709551597 31 = 13) ∧ (bits .and .u64 18446744073709551594 31 = 10) ∧ (bits .and .u64 18446744073709551591 31 = 7) := by decide
theorem left_spec32 (x : Int) (n : Nat) (hn : n = 2 ∨ n = 6 ∨ n = 7 ∨ n = 11 ∨ n = 13 ∨ n = 17 ∨ n = 18 ∨ n = 19 ∨ n = 22 ∨ n = 25) (k : Nat) :
    ACall Tryd.prog 116 [.lit (.int .u32 x), .lit (.int .i64 (-(n : Int)))] k [] (.lit (.int .u32 (rot0 x n))) [] := by
  obtain ⟨r1, r2, r3, r4, r5, r6, r7, r8, r9, r10⟩ := rot_and
  unfold rot0
  rcases hn with rfl | rfl | rfl | rfl | rfl | rfl | rfl | rfl | rfl | rfl
  all_goals (
    simp only [Nat.reduceSub, Int.reducePow]
    refine ACall.of_body mixed Tryd.func116 rfl (by kernel_rfl) Tryd.ntmps116 (by kernel_rfl) rfl (by simp) (by simp) (by simp) fun σ N hp hpn hk hkn hfree => ?_
    exact W0)
theorem rot_spec0 (x : Int) (n : Nat) (hn : n = 2 ∨ n = 6 ∨ n = 7 ∨ n = 11 ∨ n = 13 ∨ n = 17 ∨ n = 18 ∨ n = 19 ∨ n = 22 ∨ n = 25) (k : Nat) :
    ACall Tryd.prog 115 [.lit (.int .u32 x), .lit (.int .i64 n)] k [] (.lit (.int .u32 (rot0 x n))) [] := by
  have c1 := left_spec32 x n hn
  have hw : IntKind.i64.wrap (-(n : Int)) = -(n : Int) := wrap_i64 (by omega) (by omega)
  generalize rot0 x n = r at *
  refine ACall.of_body mixed Tryd.func115 rfl (by kernel_rfl) Tryd.ntmps115 (by kernel_rfl) rfl (by simp) (by simp) (by simp) fun σ N hp hpn hk hkn hfree => ?_
  have hcs := And.intro c1 True.intro
  clear c1
  exact W0
theorem refrot_spec0 (x : Int) (n : Nat) (hn : n = 2 ∨ n = 6 ∨ n = 7 ∨ n = 11 ∨ n = 13 ∨ n = 17 ∨ n = 18 ∨ n = 19 ∨ n = 22 ∨ n = 25) (k : Nat) :
    ACall Tryd.prog 107 [.lit (.int .u32 x), .lit (.int .u64 n)] k [] (.lit (.int .u32 (rot0 x n))) [] := by
  unfold rot0
  rw [or32_comm]
  rcases hn with rfl | rfl | rfl | rfl | rfl | rfl | rfl | rfl | rfl | rfl
  all_goals (
    simp only [Nat.reduceSub, Int.reducePow]
    refine ACall.of_body mixed Tryd.func107 rfl (by kernel_rfl) Tryd.ntmps107 (by kernel_rfl) rfl (by simp) (by simp) (by simp) fun σ N hp hpn hk hkn hfree => ?_
    exact W0)
section
variable [W : W32]
open W32
theorem rot_spec (x : Int) (n : Nat) (hn : n = 2 ∨ n = 6 ∨ n = 7 ∨ n = 11 ∨ n = 13 ∨ n = 17 ∨ n = 18 ∨ n = 19 ∨ n = 22 ∨ n = 25) (k : Nat) :
    ACall Tryd.prog 115 [.lit (.int .u32 x), .lit (.int .i64 n)] k [] (.lit (.int .u32 (W.rotr x n))) [] := by
  rw [← W.rotr_h]; exact rot_spec0 x n hn k
theorem refrot_spec (x : Int) (n : Nat) (hn : n = 2 ∨ n = 6 ∨ n = 7 ∨ n = 11 ∨ n = 13 ∨ n = 17 ∨ n = 18 ∨ n = 19 ∨ n = 22 ∨ n = 25) (k : Nat) :
    ACall Tryd.prog 107 [.lit (.int .u32 x), .lit (.int .u64 n)] k [] (.lit (.int .u32 (W.rotr x n))) [] := by
  rw [← W.rotr_h]; exact refrot_spec0 x n hn k
@[go_sem] theorem cv_eq (x : Int) : IntKind.u32.wrap x = W.cv x := W.cv_h x
@[go_sem] theorem o32_eq (a b : Int) : bits .or .u32 a b = W.o32 a b := W.o32_h a b
@[go_sem] theorem x32_eq (a b : Int) : bits .xor .u32 a b = W.x32 a b := W.x32_h a b
@[go_sem] theorem n32_eq (a b : Int) : bits .and .u32 a b = W.n32 a b := W.n32_h a b
theorem shl32 (P : Program) (t : TypeId) (a : Int) (k : IntKind) (z : Int) (n : Nat) (hz : z = n) (hn : n ≤ 32) : evBin P .shl t (.lit (.int .u32 a)) (.lit (.int k z)) = some ⟨[], .lit (.int .u32 (W.shw n a)), []⟩ := by
  subst hz
  rw [← W.shw_h, evBin]
  have h1 : min n 32 = n := by omega
  simp [litBin, h1, IntKind.bits]
@[go_sem high] theorem shl32_24 (P : Program) (t : TypeId) (a : Int) (k : IntKind) : evBin P .shl t (.lit (.int .u32 a)) (.lit (.int k 24)) = some ⟨[], .lit (.int .u32 (W.shw 24 a)), []⟩ := shl32 P t a k _ _ rfl (by omega)
@[go_sem high] theorem shl32_16 (P : Program) (t : TypeId) (a : Int) (k : IntKind) : evBin P .shl t (.lit (.int .u32 a)) (.lit (.int k 16)) = some ⟨[], .lit (.int .u32 (W.shw 16 a)), []⟩ := shl32 P t a k _ _ rfl (by omega)
@[go_sem high] theorem shl32_8 (P : Program) (t : TypeId) (a : Int) (k : IntKind) : evBin P .shl t (.lit (.int .u32 a)) (.lit (.int k 8)) = some ⟨[], .lit (.int .u32 (W.shw 8 a)), []⟩ := shl32 P t a k _ _ rfl (by omega)
end
end Go.Proofs.YtaelnglalpiemaaDoor

/- SHA-256: arrays of words, the words of a block. -/
namespace Go.Proofs.YtaelnglalpiemaaDoor
open Go.Ab
attribute [local irreducible] Go.Ab.tyAV Go.Ab.aw Go.Ab.aops Go.Ab.kReg Go.Ab.aThen Go.Ab.aBlk Go.Ab.acond Go.Ab.aguard Go.Ab.astep Go.Ab.AStepX Go.Ab.aRet

def uAV (x : Int) : AV := .lit (.int .u32 x)
theorem uAV_eq (x : Int) : AV.lit (.int .u32 x) = uAV x := rfl
@[go_sem] theorem uAV_un (x : Int) : uAV x = .lit (.int .u32 x) := rfl
/-- An array of words. -/
def uuAV (L : List Int) : AV := .agg (L.map uAV)
@[go_sem] theorem szl_us (L : List Int) : AV.szl (L.map uAV) = L.length := by
  rw [AV.szl_uniform _ 1 fun x hx => by obtain ⟨b, _, rfl⟩ := List.mem_map.1 hx; rfl]; simp
@[go_sem] theorem szl_take_us (L : List Int) (i : Nat) : AV.szl ((L.map uAV).take i) = min i L.length := by rw [← List.map_take, szl_us, List.length_take]
theorem celll_us (L : List Int) : AV.celll (L.map uAV) = true := by
  rw [AV.celll_all, List.all_eq_true]; intro x hx; obtain ⟨b, _, rfl⟩ := List.mem_map.1 hx; rfl
@[go_sem] theorem uuAV_sz (L : List Int) : (uuAV L).sz = L.length := szl_us L
@[go_sem] theorem uuAV_isAgg (L : List Int) : (uuAV L).isAgg = true := rfl
@[go_sem] theorem uuAV_cell (L : List Int) : (uuAV L).cell = true := celll_us L
@[go_sem] theorem renl_us (f : Nat → Option Nat) (L : List Int) : AV.renl f (L.map uAV) = L.map uAV := by
  rw [AV.renl_map, List.map_map]; rfl
@[go_sem] theorem uuAV_ren (f : Nat → Option Nat) (L : List Int) : (uuAV L).ren f = uuAV L := by
  simp only [uuAV, AV.ren, renl_us]
theorem uu_get (L : List Int) (i : Nat) (h : i < L.length) : (uuAV L).get [i] = some (.lit (.int .u32 L[i])) := by
  simp [uuAV, AV.get, h, uAV]
theorem uu_getD (L : List Int) (i : Nat) (h : i < L.length) : (uuAV L).get [i] = some (.lit (.int .u32 (L.getD i 0))) := by
  rw [uu_get L i h, List.getD_eq_getElem?_getD, List.getElem?_eq_getElem h]; rfl
theorem uu_offs (L : List Int) (i : Nat) (h : i < L.length) : (uuAV L).offs [i] = i := by
  simp only [uuAV, AV.offs, szl_take_us, List.getElem?_map, List.getElem?_eq_getElem h, Option.map_some]
  omega
theorem uu_put (L : List Int) (i : Nat) (z : Int) (h : i < L.length) : (uuAV L).put [i] (.lit (.int .u32 z)) = uuAV (L.set i z) := by
  simp [uuAV, AV.put, h, uAV, List.map_set]
attribute [go_sem] uu_get uu_offs uu_put
@[go_sem] theorem agg_us (L : List Int) : AV.agg (L.map uAV) = uuAV L := by simp only [uuAV]
@[go_sem] theorem agg_rep64 : AV.agg (List.replicate 64 (.lit (.int .u32 0))) = uuAV (List.replicate 64 0) := by
  rw [uuAV, List.map_replicate]; rfl

theorem bget (b : List UInt8) (i : Nat) (h : i < b.length) : b[i] = b.getD i 0 := by
  rw [List.getD_eq_getElem?_getD, List.getElem?_eq_getElem h]; rfl
section
variable [W : W32]
def sg0 (x : Int) : Int := W.x32 (W.x32 (W.rotr x 7) (W.rotr x 18)) (x.fdiv 8)
def sg1 (x : Int) : Int := W.x32 (W.x32 (W.rotr x 17) (W.rotr x 19)) (x.fdiv 1024)
def word (b : List UInt8) (t : Nat) : Int := W.o32 (W.o32 (W.o32 (W.shw 24 (W.cv ((b.getD (4 * t) 0).toNat : Int))) (W.shw 16 (W.cv ((b.getD (4 * t + 1) 0).toNat : Int)))) (W.shw 8 (W.cv ((b.getD (4 * t + 2) 0).toNat : Int)))) (W.cv ((b.getD (4 * t + 3) 0).toNat : Int))
def nextW (L : List Int) (t : Nat) : Int := W.cv (W.cv (W.cv (sg1 (L.getD (t - 2) 0) + L.getD (t - 7) 0) + sg0 (L.getD (t - 15) 0)) + L.getD (t - 16) 0)
/-- The words of a block, the first n of them. -/
def Wd (b : List UInt8) : Nat → List Int
  | 0 => List.replicate 64 0
  | n + 1 => (Wd b n).set n (if n < 16 then word b n else nextW (Wd b n) n)
theorem Wd_len (b : List UInt8) : ∀ n, (Wd b n).length = 64
  | 0 => by simp [Wd]
  | n + 1 => by simp [Wd, Wd_len b n]
theorem Wd_lo (b : List UInt8) (n : Nat) (h : n < 16) : Wd b (n + 1) = (Wd b n).set n (word b n) := by rw [Wd, if_pos h]
theorem Wd_hi (b : List UInt8) (n : Nat) (h : ¬ n < 16) : Wd b (n + 1) = (Wd b n).set n (nextW (Wd b n) n) := by rw [Wd, if_neg h]

theorem word_at {b : List UInt8} {t : Nat} (h : 4 * t + 3 < b.length) {c0 c1 c2 c3 : UInt8} (h0 : b[4 * t] = c0) (h1 : b[4 * t + 1] = c1) (h2 : b[4 * t + 2] = c2) (h3 : b[4 * t + 3] = c3) :
    W.o32 (W.o32 (W.o32 (W.shw 24 (W.cv (c0.toNat : Int))) (W.shw 16 (W.cv (c1.toNat : Int)))) (W.shw 8 (W.cv (c2.toNat : Int)))) (W.cv (c3.toNat : Int)) = word b t := by
  unfold word
  rw [← bget b (4 * t) (by omega), ← bget b (4 * t + 1) (by omega), ← bget b (4 * t + 2) (by omega), ← bget b (4 * t + 3) (by omega), h0, h1, h2, h3]
theorem nextW_at {L : List Int} {t : Nat} (h : t < L.length) (ht : 16 ≤ t) {x2 x7 x15 x16 : Int} (h2 : L[t - 2] = x2) (h7 : L[t - 7] = x7) (h15 : L[t - 15] = x15) (h16 : L[t - 16] = x16) :
    nextW L t = W.cv (W.cv (W.cv (sg1 x2 + x7) + sg0 x15) + x16) := by
  have key : ∀ (i : Nat) (hi : i < L.length), L.getD i 0 = L[i] := fun i hi => by rw [List.getD_eq_getElem?_getD, List.getElem?_eq_getElem hi]; rfl
  unfold nextW
  rw [key (t - 2) (by omega), key (t - 7) (by omega), key (t - 15) (by omega), key (t - 16) (by omega), h2, h7, h15, h16]
attribute [irreducible] Wd word nextW sg0 sg1
set_option maxHeartbeats 1000000 in
theorem schedule_spec (b : List UInt8) (hb : b.length = 64) (R : List Int) (hR : Wd b 64 = R) (k : Nat) :
    ACall Tryd.prog 114 [.slice none (b.map byteAV)] k [] (uuAV R) [] := by
  have hz : List.replicate 64 (0 : Int) = Wd b 0 := by unfold Wd; rfl
  obtain ⟨Z, hZ⟩ : ∃ Z, Wd b 0 = Z := ⟨_, rfl⟩
  have hZl : Z.length = 64 := by rw [← hZ]; exact Wd_len b 0
  rw [hZ] at hz
  refine ACall.of_body mixed Tryd.func114 rfl (by kernel_rfl) Tryd.ntmps114 (by kernel_rfl) rfl (by simp) (by simp) (by simp) fun σ N hp hpn hk hkn hfree => ?_
  refine Wk ?_
  refine go_loopF mixed (by kernel_rfl) (4 :: 5 :: 6 :: 7 :: 8 :: 9 :: 10 :: 11 :: 12 :: 13 :: 14 :: 15 :: 16 :: 17 :: 18 :: 19 :: 20 :: 21 :: 22 :: 23 :: 24 :: 25 :: 26 :: 27 :: 28 :: 29 :: 30 :: 31 :: 32 :: 33 :: 34 :: 35 :: 36 :: 37 :: 38 :: 39 :: 40 :: 41 :: 42 :: 43 :: 44 :: 45 :: 46 :: 47 :: 48 :: 49 :: 50 :: 51 :: 52 :: 53 :: 54 :: 55 :: 56 :: 57 :: 58 :: 59 :: 60 :: 61 :: 62 :: 63 :: 64 :: 65 :: 66 :: 67 :: 68 :: 69 :: 70 :: 71 :: 72 :: 73 :: 74 :: 75 :: 76 :: 77 :: 78 :: 79 :: 80 :: 81 :: 82 :: 83 :: 84 :: 85 :: 86 :: 87 :: 88 :: []) [N+1] (fun m_ s_ σ_ n_ => ∃ (t : Nat) (L : List Int), m_ = 64 - t ∧ s_ 9 = .lit (.int .i64 t) ∧ σ_ (N+1) = .box 134 (uuAV L) ∧ (t ≤ 64) ∧ (Wd b t = L)) ⟨_, 0, Z, rfl, WF, WF, WC, WC⟩ ?_
  intro m_1 s_1 σ_1 n_1 hs_1 hf_1 hn_1 hI_1
  obtain ⟨t, L, hm_1, h1_9, e1_0, ht, hL⟩ := hI_1
  have h1_0 := (hs_1.at 0 (by decide)).trans WE
  have h1_2 := (hs_1.at 2 (by decide)).trans WE
  have h1_3 := (hs_1.at 3 (by decide)).trans WE
  have k1_0 := (hf_1.at (N) (by omega) WQ).trans WE
  have hlow : ∀ id, id < N → σ_1 id = σ id := fun id hid => (hf_1.at id (by omega) WQ).trans WH
  have hlen : L.length = 64 := by rw [← hL]; exact Wd_len b t
  by_cases ht64 : t = 64
  · subst ht64
    rw [hR] at hL
    subst hL
    exact W0
  · have htl : (t : Int) < 64 := by omega
    by_cases h16 : t < 16
    · have h16' : (t : Int) < 16 := by omega
      have hw := Wd_lo b t h16
      rw [hL] at hw
      have i0 : (4 * (t : Int)).toNat = 4 * t := by omega
      have i1 : (4 * (t : Int) + 1).toNat = 4 * t + 1 := by omega
      have i2 : (4 * (t : Int) + 2).toNat = 4 * t + 2 := by omega
      have i3 : (4 * (t : Int) + 3).toNat = 4 * t + 3 := by omega
      have hlt0 : 4 * t < b.length := by omega
      have hlt1 : 4 * t + 1 < b.length := by omega
      have hlt2 : 4 * t + 2 < b.length := by omega
      have hlt3 : 4 * t + 3 < b.length := by omega
      obtain ⟨c0, g0⟩ : ∃ c, b[4 * t] = c := ⟨_, rfl⟩
      obtain ⟨c1, g1⟩ : ∃ c, b[4 * t + 1] = c := ⟨_, rfl⟩
      obtain ⟨c2, g2⟩ : ∃ c, b[4 * t + 2] = c := ⟨_, rfl⟩
      obtain ⟨c3, g3⟩ : ∃ c, b[4 * t + 3] = c := ⟨_, rfl⟩
      have hwd := word_at hlt3 g0 g1 g2 g3
      generalize word b t = wt at *
      have e0 : byteAV c0 = .lit (.int .u8 c0.toNat) := rfl
      have e1 : byteAV c1 = .lit (.int .u8 c1.toNat) := rfl
      have e2 : byteAV c2 = .lit (.int .u8 c2.toNat) := rfl
      have e3 : byteAV c3 = .lit (.int .u8 c3.toNat) := rfl
      clear hL hR
      repeat (first | apply go_nil | apply go_kreg | apply go_kreg0 | apply go_kreg1 | (apply go_kregT; · (first | (simp [addT, CF, CFy, Ind, DisjF]; done) | (simp only [addT, CF, CFy, Ind]; repeat' (first | exact trivial | apply And.intro | exact Or.inl (by decide +kernel) | (refine Or.inr ⟨?_, ?_⟩ <;> (simp; try omega)))))) | apply go_then | apply go_then_exit | apply go_then_ret | apply go_blk | apply go_blk_ret | apply go_blk_here | (apply go_blk_there; · rfl) | apply go_seq | (apply go_region; · (simp only [List.length_cons, List.length_nil, Nat.reduceAdd, Nat.add_assoc]; rfl)) | apply go_skip | apply go_block | apply go_scope | apply go_label | apply go_exit | apply go_ret | (apply go_mut; (· assumption); · (simp (disch := omega) [go_sem, *, -List.reduceReplicate]; first | exact ⟨rfl, rfl⟩ | (simp [go_sem, *]; exact ⟨rfl, rfl⟩))) | (apply go_mutP; (· assumption); · (simp (disch := omega) [go_sem, *, -List.reduceReplicate]; try first | rfl | exact ⟨rfl, rfl⟩ | exact ⟨rfl, rfl, rfl⟩)) | (apply go_guard_in; (· rfl); · (simp (disch := omega) [go_sem, *, -List.reduceReplicate]; try first | rfl | omega)) | (apply go_guard_off; (· rfl); · (simp (disch := omega) [go_sem, *, -List.reduceReplicate]; try first | rfl | omega)) | (apply go_guard_no; (· rfl); · (simp (disch := omega) [go_sem, *, -List.reduceReplicate]; try rfl)) | ((first | apply go_move | apply go_assign | apply go_load | apply go_store | apply go_append | apply go_copy | apply go_copy0 | apply go_clear0 | apply go_slice3 | apply go_indexA); · (simp (disch := omega) [go_sem, *, -List.reduceReplicate]; try first | rfl | exact ⟨rfl, rfl⟩ | exact ⟨rfl, rfl, rfl⟩)) | ((first | apply go_loadv | apply go_append0 | apply go_beyond); · (simp (disch := omega) [go_sem, *, -List.reduceReplicate]; try first | rfl | exact ⟨rfl, rfl⟩ | exact ⟨rfl, rfl, rfl⟩)) | (apply go_appself; · (simp (disch := omega) [go_sem, *, -List.reduceReplicate]; try first | rfl | exact ⟨rfl, rfl⟩ | exact ⟨rfl, rfl, rfl⟩)) | ((first | (apply go_appendz; · rfl) | (apply go_new; · rfl) | (apply go_pure; · rfl)); · (simp (disch := omega) [go_sem, *, -List.reduceReplicate]; try first | rfl | exact ⟨rfl, rfl⟩ | exact ⟨rfl, rfl, rfl⟩)) | ((apply go_glob; · assumption); · (simp (disch := omega) [go_sem, *, -List.reduceReplicate]; try first | rfl | exact ⟨rfl, rfl⟩ | exact ⟨rfl, rfl, rfl⟩)) | (apply go_read1; (· rfl); · (simp (disch := omega) [go_sem, *, -List.reduceReplicate]; try first | rfl | exact ⟨rfl, rfl⟩ | exact ⟨rfl, rfl, rfl⟩)) | (apply go_rw1; (· rfl); · (simp (disch := omega) [go_sem, *, -List.reduceReplicate]; try first | rfl | exact ⟨rfl, rfl⟩ | exact ⟨rfl, rfl, rfl⟩)) | (apply go_new1; (· rfl); · (simp (disch := omega) [go_sem, *, -List.reduceReplicate]; try first | rfl | exact ⟨rfl, rfl⟩ | exact ⟨rfl, rfl, rfl⟩)) | (apply go_conv; · (simp (disch := omega) [go_sem, *, -List.reduceReplicate]; try first | rfl | exact ⟨rfl, rfl⟩ | exact ⟨rfl, rfl, rfl⟩)) | ((first | (apply go_new; · rfl) | (apply go_pure; · rfl)); · (simp (disch := omega) [go_sem, *, -List.reduceReplicate]; simp [go_sem, *]; try first | rfl | exact ⟨rfl, rfl⟩)) | (apply go_condT; · (simp (disch := omega) [go_sem, *, -List.reduceReplicate]; try first | rfl | omega; done)) | (apply go_condF; · (simp (disch := omega) [go_sem, *, -List.reduceReplicate]; try first | rfl | omega; done)) | (obtain ⟨hcall, hcs⟩ := hcs; refine go_callw (hcall _) (by simp (disch := omega) [go_sem, *, -List.reduceReplicate]; try rfl) (by simp (disch := omega) [go_sem, *, -List.reduceReplicate]; repeat' first | exact ALe.nil | exact AV.le_refl _ | exact AV.le_nils | exact AV.le_own _ _ | apply ALe.cons | apply AV.sub_agg) (by simp (disch := omega) [go_sem, *, -List.reduceReplicate]) ?_; clear hcall))
      clear hwd e0 e1 e2 e3 g0 g1 g2 g3 i0 i1 i2 i3
      exact ⟨WS, WG, WN, _, (show 64 - (t + 1) < m_1 by omega), t + 1, L.set t wt, rfl, WF, WF, WC, WC⟩
    · have h16' : ¬ (t : Int) < 16 := by omega
      have hw := Wd_hi b t h16
      rw [hL] at hw
      have j15 : ((t : Int) - 15).toNat = t - 15 := by omega
      have j2 : ((t : Int) - 2).toNat = t - 2 := by omega
      have j7 : ((t : Int) - 7).toNat = t - 7 := by omega
      have j16 : ((t : Int) - 16).toNat = t - 16 := by omega
      have l15 : t - 15 < L.length := by omega
      have l2 : t - 2 < L.length := by omega
      have l7 : t - 7 < L.length := by omega
      have l16 : t - 16 < L.length := by omega
      obtain ⟨x15, g15⟩ : ∃ x, L[t - 15] = x := ⟨_, rfl⟩
      obtain ⟨x2, g2⟩ : ∃ x, L[t - 2] = x := ⟨_, rfl⟩
      obtain ⟨x7, g7⟩ : ∃ x, L[t - 7] = x := ⟨_, rfl⟩
      obtain ⟨x16, g16⟩ : ∃ x, L[t - 16] = x := ⟨_, rfl⟩
      rw [nextW_at (by omega) (by omega) g2 g7 g15 g16] at hw
      have r1 := rot_spec x15 7 (by omega)
      have r2 := rot_spec x15 18 (by omega)
      have r3 := rot_spec x2 17 (by omega)
      have r4 := rot_spec x2 19 (by omega)
      have s0 : W.x32 (W.x32 (W.rotr x15 7) (W.rotr x15 18)) (x15.fdiv 8) = sg0 x15 := by unfold sg0; rfl
      have s1 : W.x32 (W.x32 (W.rotr x2 17) (W.rotr x2 19)) (x2.fdiv 1024) = sg1 x2 := by unfold sg1; rfl
      have hcs := And.intro r1 (And.intro r2 (And.intro r3 (And.intro r4 True.intro)))
      clear r1 r2 r3 r4 hL hR
      repeat (first | apply go_nil | apply go_kreg | apply go_kreg0 | apply go_kreg1 | (apply go_kregT; · (first | (simp [addT, CF, CFy, Ind, DisjF]; done) | (simp only [addT, CF, CFy, Ind]; repeat' (first | exact trivial | apply And.intro | exact Or.inl (by decide +kernel) | (refine Or.inr ⟨?_, ?_⟩ <;> (simp; try omega)))))) | apply go_then | apply go_then_exit | apply go_then_ret | apply go_blk | apply go_blk_ret | apply go_blk_here | (apply go_blk_there; · rfl) | apply go_seq | (apply go_region; · (simp only [List.length_cons, List.length_nil, Nat.reduceAdd, Nat.add_assoc]; rfl)) | apply go_skip | apply go_block | apply go_scope | apply go_label | apply go_exit | apply go_ret | (apply go_mut; (· assumption); · (simp (disch := omega) [go_sem, *, -List.reduceReplicate]; first | exact ⟨rfl, rfl⟩ | (simp [go_sem, *]; exact ⟨rfl, rfl⟩))) | (apply go_mutP; (· assumption); · (simp (disch := omega) [go_sem, *, -List.reduceReplicate]; try first | rfl | exact ⟨rfl, rfl⟩ | exact ⟨rfl, rfl, rfl⟩)) | (apply go_guard_in; (· rfl); · (simp (disch := omega) [go_sem, *, -List.reduceReplicate]; try first | rfl | omega)) | (apply go_guard_off; (· rfl); · (simp (disch := omega) [go_sem, *, -List.reduceReplicate]; try first | rfl | omega)) | (apply go_guard_no; (· rfl); · (simp (disch := omega) [go_sem, *, -List.reduceReplicate]; try rfl)) | ((first | apply go_move | apply go_assign | apply go_load | apply go_store | apply go_append | apply go_copy | apply go_copy0 | apply go_clear0 | apply go_slice3 | apply go_indexA); · (simp (disch := omega) [go_sem, *, -List.reduceReplicate]; try first | rfl | exact ⟨rfl, rfl⟩ | exact ⟨rfl, rfl, rfl⟩)) | ((first | apply go_loadv | apply go_append0 | apply go_beyond); · (simp (disch := omega) [go_sem, *, -List.reduceReplicate]; try first | rfl | exact ⟨rfl, rfl⟩ | exact ⟨rfl, rfl, rfl⟩)) | (apply go_appself; · (simp (disch := omega) [go_sem, *, -List.reduceReplicate]; try first | rfl | exact ⟨rfl, rfl⟩ | exact ⟨rfl, rfl, rfl⟩)) | ((first | (apply go_appendz; · rfl) | (apply go_new; · rfl) | (apply go_pure; · rfl)); · (simp (disch := omega) [go_sem, *, -List.reduceReplicate]; try first | rfl | exact ⟨rfl, rfl⟩ | exact ⟨rfl, rfl, rfl⟩)) | ((apply go_glob; · assumption); · (simp (disch := omega) [go_sem, *, -List.reduceReplicate]; try first | rfl | exact ⟨rfl, rfl⟩ | exact ⟨rfl, rfl, rfl⟩)) | (apply go_read1; (· rfl); · (simp (disch := omega) [go_sem, *, -List.reduceReplicate]; try first | rfl | exact ⟨rfl, rfl⟩ | exact ⟨rfl, rfl, rfl⟩)) | (apply go_rw1; (· rfl); · (simp (disch := omega) [go_sem, *, -List.reduceReplicate]; try first | rfl | exact ⟨rfl, rfl⟩ | exact ⟨rfl, rfl, rfl⟩)) | (apply go_new1; (· rfl); · (simp (disch := omega) [go_sem, *, -List.reduceReplicate]; try first | rfl | exact ⟨rfl, rfl⟩ | exact ⟨rfl, rfl, rfl⟩)) | (apply go_conv; · (simp (disch := omega) [go_sem, *, -List.reduceReplicate]; try first | rfl | exact ⟨rfl, rfl⟩ | exact ⟨rfl, rfl, rfl⟩)) | ((first | (apply go_new; · rfl) | (apply go_pure; · rfl)); · (simp (disch := omega) [go_sem, *, -List.reduceReplicate]; simp [go_sem, *]; try first | rfl | exact ⟨rfl, rfl⟩)) | (apply go_condT; · (simp (disch := omega) [go_sem, *, -List.reduceReplicate]; try first | rfl | omega; done)) | (apply go_condF; · (simp (disch := omega) [go_sem, *, -List.reduceReplicate]; try first | rfl | omega; done)) | (obtain ⟨hcall, hcs⟩ := hcs; refine go_callw (hcall _) (by simp (disch := omega) [go_sem, *, -List.reduceReplicate]; try rfl) (by simp (disch := omega) [go_sem, *, -List.reduceReplicate]; repeat' first | exact ALe.nil | exact AV.le_refl _ | exact AV.le_nils | exact AV.le_own _ _ | apply ALe.cons | apply AV.sub_agg) (by simp (disch := omega) [go_sem, *, -List.reduceReplicate]) ?_; clear hcall))
      exact ⟨WS, WG, WN, _, (show 64 - (t + 1) < m_1 by omega), t + 1, L.set t (W.cv (W.cv (W.cv (sg1 x2 + x7) + sg0 x15) + x16)), rfl, WF, WF, WC, WC⟩
end
end Go.Proofs.YtaelnglalpiemaaDoor

/- From a law's contract to what its statement asks, where a package-level array is read. -/
namespace Go.Ab
open Go.RowKit

theorem rep_tab {w : World} {h : Nat} {k : IntKind} {zs : List Int} (hpos : 0 < zs.length) (hc : ∀ i, i < zs.length → w.cell? ⟨h, i, none⟩ = some (.int k (zs.getD i 0))) : Rep (g0 w) (.view (.agg (zs.map fun z => .lit (.int k z)))) (.pointer (some ⟨h, 0, none⟩)) := by
  have hb : h < w.heap.size := World.block_lt_of_cell? w ⟨h, 0, none⟩ (hc 0 hpos)
  have hfl : flat (zs.map fun z => Value.int k z) = zs.map fun z => Value.int k z := flat_lits _ fun v hv => by obtain ⟨z, _, rfl⟩ := List.mem_map.1 hv; rfl
  refine .view _ (.agg (flat (zs.map fun z => Value.int k z)).toArray) h 0 (.agg _ (zs.map fun z => Value.int k z) (by simp) fun i x v hx hv => ?_) fun j u hu => ?_
  · rw [List.getElem?_map] at hx hv
    cases hz : zs[i]? with
    | none => rw [hz] at hx; cases hx
    | some z => rw [hz] at hx hv; cases hx; cases hv; exact .lit _ rfl
  · simp only [Value.cells, List.toList_toArray] at hu
    rw [hfl, List.getElem?_map] at hu
    cases hz : zs[j]? with
    | none => rw [hz] at hu; cases hu
    | some z =>
      rw [hz] at hu; cases hu
      have hj := (List.getElem?_eq_some_iff.1 hz).1
      have := hc j hj
      rw [List.getD_eq_getElem?_getD, hz] at this
      simp only [g0, if_pos hb, Nat.zero_add]
      exact this

theorem sim1 (w : World) (h : Nat) (X : AV) (hX : Rep (g0 w) (.view X) (.pointer (some ⟨h, 0, none⟩))) : Sim w (g0 w) (upd (fun _ => .none) 1 (.glob h X)) 2 w where
  below := Below.refl _ _
  imm := (sim0 w).imm
  bound := fun i hi => by rw [upd_ne _ _ _ _ (show i ≠ 1 by omega)]
  ents := fun i => by
    by_cases hi : i = 1
    · subst hi; rw [upd_same]; exact ⟨rfl, rfl, rfl, rfl, hX⟩
    · rw [upd_ne _ _ _ _ hi]; exact ⟨rfl, rfl, rfl, rfl⟩
  sep := fun i j b h _ => by simp [g0, Ghost.blk] at h
  fresh := fun i b h => by simp [g0, Ghost.blk] at h

theorem ACall.walksG {P : Program} {f : FuncId} {args : List AV} {v : Value} {h : Nat} {X : AV} (hcall : ACall P f args 0 [(1, .glob h X)] (.lit v) []) (w : World) (hX : Rep (g0 w) (.view X) (.pointer (some ⟨h, 0, none⟩))) {vals : List Value} (hr : Reps (g0 w) args vals) :
    Calls P f vals.toArray w fun e w' => e = .returned v ∧ Below w.heap.size w w' := by
  refine (hcall.2.2.2 w (g0 w) _ 2 w vals (sim1 w h X hX) hr.at.1 hr.at.2 (upd_ne _ _ _ _ (by omega)) (by omega) (fun p hp => by simp at hp; subst hp; simp [upd_same])).mono ?_
  rintro e w' ⟨u, rfl, g', _, hS, hu⟩
  rw [rep_lit_inv hu]
  exact ⟨rfl, hS.below⟩
end Go.Ab

/- SHA-256: the rounds. -/
namespace Go.Proofs.YtaelnglalpiemaaDoor
open Go.Ab
attribute [local irreducible] Go.Ab.tyAV Go.Ab.aw Go.Ab.aops Go.Ab.kReg Go.Ab.aThen Go.Ab.aBlk Go.Ab.acond Go.Ab.aguard Go.Ab.astep Go.Ab.AStepX Go.Ab.aRet

def shaZ : List Int := [1116352408, 1899447441, 3049323471, 3921009573, 961987163, 1508970993, 2453635748, 2870763221, 3624381080, 310598401, 607225278, 1426881987, 1925078388, 2162078206, 2614888103, 3248222580, 3835390401, 4022224774, 264347078, 604807628, 770255983, 1249150122, 1555081692, 1996064986, 2554220882, 2821834349, 2952996808, 3210313671, 3336571891, 3584528711, 113926993, 338241895, 666307205, 773529912, 1294757372, 1396182291, 1695183700, 1986661051, 2177026350, 2456956037, 2730485921, 2820302411, 3259730800, 3345764771, 3516065817, 3600352804, 4094571909, 275423344, 430227734, 506948616, 659060556, 883997877, 958139571, 1322822218, 1537002063, 1747873779, 1955562222, 2024104815, 2227730452, 2361852424, 2428436474, 2756734187, 3204031479, 3329325298]
def shaL : List AV := shaZ.map fun z => .lit (.int .u32 z)
/-- The package-level table of constants. -/
def shaG : Ent := .glob 1 (.agg shaL)
@[simp, go_sem] theorem shaG_ne : (shaG = .none) = False := by simp [shaG]
theorem shaZ_len : shaZ.length = 64 := by simp only [shaZ, List.length_cons, List.length_nil]
theorem shaL_at (t : Nat) (h : t < 64) : shaL[t]? = some (.lit (.int .u32 (shaZ[t]'(by rw [shaZ_len]; exact h)))) := by
  rw [shaL, List.getElem?_map, List.getElem?_eq_getElem (by rw [shaZ_len]; exact h)]; rfl
theorem shaL_take (t : Nat) (h : t < 64) : AV.szl (shaL.take t) = t := by
  have : shaL = shaZ.map uAV := rfl
  rw [this, szl_take_us, shaZ_len]; omega
theorem shaL_uu : AV.agg shaL = uuAV shaZ := rfl
attribute [irreducible] shaZ shaL

/-- The eight words of the state. -/
structure V8 where
  a : Int
  b : Int
  c : Int
  d : Int
  e : Int
  f : Int
  g : Int
  h : Int
def V8.l (v : V8) : List Int := [v.a, v.b, v.c, v.d, v.e, v.f, v.g, v.h]
def v8AV (v : V8) : AV := uuAV v.l
@[go_sem] theorem agg_u8 (a b c d e f g h : Int) : AV.agg [.lit (.int .u32 a), .lit (.int .u32 b), .lit (.int .u32 c), .lit (.int .u32 d), .lit (.int .u32 e), .lit (.int .u32 f), .lit (.int .u32 g), .lit (.int .u32 h)] = uuAV [a, b, c, d, e, f, g, h] := rfl
@[go_sem] theorem set_u8 (a b c d e f g h : Int) : AV.agg (((((((((List.replicate 8 (AV.lit (.int .u32 0))).set 0 (.lit (.int .u32 a))).set 1 (.lit (.int .u32 b))).set 2 (.lit (.int .u32 c))).set 3 (.lit (.int .u32 d))).set 4 (.lit (.int .u32 e))).set 5 (.lit (.int .u32 f))).set 6 (.lit (.int .u32 g))).set 7 (.lit (.int .u32 h))) = uuAV [a, b, c, d, e, f, g, h] := rfl
def iv8 : V8 := ⟨1779033703, 3144134277, 1013904242, 2773480762, 1359893119, 2600822924, 528734635, 1541459225⟩

@[go_sem] theorem not32 : (if IntKind.u32.signed = true then (-1 : Int) else IntKind.u32.max) = 4294967295 := rfl
section
variable [W : W32]
def S1 (e : Int) : Int := W.x32 (W.x32 (W.rotr e 6) (W.rotr e 11)) (W.rotr e 25)
def S0 (a : Int) : Int := W.x32 (W.x32 (W.rotr a 2) (W.rotr a 13)) (W.rotr a 22)
def Ch (e f g : Int) : Int := W.x32 (W.n32 e f) (W.n32 (W.x32 4294967295 e) g)
def Maj (a b c : Int) : Int := W.x32 (W.x32 (W.n32 a b) (W.n32 a c)) (W.n32 b c)
def T1 (v : V8) (k w : Int) : Int := W.cv (W.cv (W.cv (W.cv (v.h + S1 v.e) + Ch v.e v.f v.g) + k) + w)
def T2 (v : V8) : Int := W.cv (S0 v.a + Maj v.a v.b v.c)
def rnd (v : V8) (k w : Int) : V8 := ⟨W.cv (T1 v k w + T2 v), v.a, v.b, v.c, W.cv (v.d + T1 v k w), v.e, v.f, v.g⟩
/-- The state after n rounds. -/
def Rd (w : List Int) (v : V8) : Nat → V8
  | 0 => v
  | n + 1 => rnd (Rd w v n) (shaZ.getD n 0) (w.getD n 0)
def addV (v o : V8) : V8 := ⟨W.cv (v.a + o.a), W.cv (v.b + o.b), W.cv (v.c + o.c), W.cv (v.d + o.d), W.cv (v.e + o.e), W.cv (v.f + o.f), W.cv (v.g + o.g), W.cv (v.h + o.h)⟩
/-- The first n words, added. -/
def Ad (v o : List Int) : Nat → List Int
  | 0 => v
  | n + 1 => (Ad v o n).set n (W.cv ((Ad v o n).getD n 0 + o.getD n 0))
theorem Ad_len (v o : List Int) : ∀ n, (Ad v o n).length = v.length
  | 0 => rfl
  | n + 1 => by simp [Ad, Ad_len v o n]
theorem Ad_8 (v o : V8) : Ad v.l o.l 8 = (addV v o).l := by simp [Ad, V8.l, addV]
theorem Ad_8' (v o : V8) : Ad v.l o.l 8 = (addV o v).l := by simp [Ad, V8.l, addV, Int.add_comm]
def chg (o : V8) (b : List UInt8) : V8 := addV (Rd (Wd b 64) o 64) o
attribute [irreducible] S1 S0 Ch Maj
set_option maxHeartbeats 2000000 in
theorem change_spec (o : V8) (b : List UInt8) (hb : b.length = 64) (g k : Nat) :
    ACall Tryd.prog 106 [v8AV o, .slice none (b.map byteAV)] k [(g, shaG)] (v8AV (chg o b)) [] := by
  obtain ⟨w, hw⟩ : ∃ w, Wd b 64 = w := ⟨_, rfl⟩
  have hwl : w.length = 64 := by rw [← hw]; exact Wd_len b 64
  have c1 := schedule_spec b hb w hw
  obtain ⟨v, hv⟩ : ∃ v, Rd w o 64 = v := ⟨_, rfl⟩
  have hR : chg o b = addV v o := by rw [chg, hw, hv]
  rw [hR, v8AV, v8AV, ← Ad_8]
  unfold shaG
  clear hR
  obtain ⟨ol, hol⟩ : ∃ l, o.l = l := ⟨_, rfl⟩
  have holl : ol.length = 8 := by rw [← hol]; rfl
  rw [hol]
  refine ACall.of_body mixed Tryd.func106 rfl (by kernel_rfl) Tryd.ntmps106 (by kernel_rfl) rfl (by simp) (by simp) (by simp) fun σ N hp hpn hk hkn hfree => ?_
  have hd := hp _ (List.mem_singleton.2 rfl); have hdn := hpn _ (List.mem_singleton.2 rfl); simp only at hd hdn; clear hp hpn
  have hcs := And.intro c1 True.intro
  clear c1
  have hR0 : Rd w o 0 = o := rfl
  refine Wk ?_
  refine go_loopF mixed (by kernel_rfl) (7 :: 8 :: 9 :: 10 :: 11 :: 12 :: 13 :: 14 :: 15 :: 16 :: 17 :: 22 :: 23 :: 24 :: 25 :: 26 :: 27 :: 28 :: 29 :: 30 :: 31 :: 32 :: 33 :: 34 :: 35 :: 36 :: 37 :: 38 :: 39 :: 40 :: 41 :: 42 :: 43 :: 44 :: 45 :: 46 :: 47 :: 48 :: 49 :: 50 :: 51 :: 52 :: 53 :: 54 :: 55 :: 56 :: 57 :: 58 :: 59 :: 60 :: 61 :: 62 :: 63 :: 64 :: 65 :: 66 :: 67 :: 68 :: 69 :: 70 :: 71 :: 72 :: 73 :: 74 :: 75 :: 76 :: 77 :: 78 :: 79 :: 80 :: 81 :: 82 :: 83 :: 84 :: 85 :: 86 :: 87 :: 88 :: 89 :: 90 :: 91 :: 92 :: 93 :: 94 :: 95 :: 96 :: 97 :: 98 :: 99 :: 100 :: 101 :: []) [N+6] (fun m_ s_ σ_ n_ => ∃ (t : Nat) (x : V8), m_ = 64 - t ∧ s_ 22 = .lit (.int .i64 t) ∧ σ_ (N+6) = .box 116 (uuAV x.l) ∧ (t ≤ 64) ∧ (Rd w o t = x)) ⟨_, 0, o, rfl, WF, WF, WC, WC⟩ ?_
  intro m_1 s_1 σ_1 n_1 hs_1 hf_1 hn_1 hI_1
  obtain ⟨t, x, hm_1, h1_22, e1_0, ht, hx⟩ := hI_1
  have h1_2 := (hs_1.at 2 (by decide)).trans WE
  have h1_4 := (hs_1.at 4 (by decide)).trans WE
  have h1_5 := (hs_1.at 5 (by decide)).trans WE
  have h1_6 := (hs_1.at 6 (by decide)).trans WE
  have k1_0 := (hf_1.at (N) (by omega) WQ).trans WE
  have k1_1 := (hf_1.at (N+1) (by omega) WQ).trans WE
  have k1_2 := (hf_1.at (N+5) (by omega) WQ).trans WE
  have k1_3 := (hf_1.at (g) (by omega) WQ).trans WE
  have hlow : ∀ id, id < N → σ_1 id = σ id := fun id hid => (hf_1.at id (by omega) WQ).trans WH
  by_cases ht64 : t = 64
  · subst ht64
    rw [hv] at hx
    subst hx
    generalize hvl : V8.l v = vl at *
    have hvll : vl.length = 8 := by rw [← hvl]; rfl
    have hR0 : Ad vl ol 0 = vl := rfl
    refine Wk ?_
    refine go_loopF mixed (by kernel_rfl) [18, 102, 103, 104, 105, 106, 107, 108, 109, 110, 111, 112, 113] [N+6] (fun m_ s_ σ_ n_ => ∃ (t : Nat) (L : List Int), m_ = 8 - t ∧ s_ 102 = .lit (.int .i64 t) ∧ σ_ (N+6) = .box 116 (uuAV L) ∧ (t ≤ 8) ∧ (Ad vl ol t = L)) ⟨_, 0, vl, rfl, WF, WF, WC, WC⟩ ?_
    intro m_2 s_2 σ_2 n_2 hs_2 hf_2 hn_2 hI_2
    obtain ⟨t, L, hm_2, h2_102, e2_0, ht, hL⟩ := hI_2
    have h2_2 := (hs_2.at 2 (by decide)).trans WE
    have h2_4 := (hs_2.at 4 (by decide)).trans WE
    have h2_6 := (hs_2.at 6 (by decide)).trans WE
    have k2_0 := (hf_2.at (N) (by omega) WQ).trans WE
    have k2_1 := (hf_2.at (N+1) (by omega) WQ).trans WE
    have hlow : ∀ id, id < N → σ_2 id = σ id := fun id hid => (hf_2.at id (by omega) WQ).trans (by first | exact hlow id hid | exact WH)
    have hlen : L.length = 8 := by rw [← hL, Ad_len, hvll]
    by_cases ht8 : t = 8
    · subst ht8
      subst hL
      exact W0
    · have htl : (t : Int) < 8 := by omega
      have htl' : t < 8 := by omega
      have htn : t < L.length := by omega
      have htn' : t < ol.length := by omega
      obtain ⟨p, hp⟩ : ∃ x, L[t] = x := ⟨_, rfl⟩
      obtain ⟨q, hq⟩ : ∃ x, ol[t] = x := ⟨_, rfl⟩
      have hS : Ad vl ol (t + 1) = L.set t (W.cv (p + q)) := by
        rw [Ad, hL, List.getD_eq_getElem?_getD, List.getElem?_eq_getElem htn, List.getD_eq_getElem?_getD, List.getElem?_eq_getElem htn', hp, hq]; rfl
      clear hL
      repeat (first | apply go_nil | apply go_kreg | apply go_kreg0 | apply go_kreg1 | (apply go_kregT; · (first | (simp [addT, CF, CFy, Ind, DisjF]; done) | (simp only [addT, CF, CFy, Ind]; repeat' (first | exact trivial | apply And.intro | exact Or.inl (by decide +kernel) | (refine Or.inr ⟨?_, ?_⟩ <;> (simp; try omega)))))) | apply go_then | apply go_then_exit | apply go_then_ret | apply go_blk | apply go_blk_ret | apply go_blk_here | (apply go_blk_there; · rfl) | apply go_seq | (apply go_region; · (simp only [List.length_cons, List.length_nil, Nat.reduceAdd, Nat.add_assoc]; rfl)) | apply go_skip | apply go_block | apply go_scope | apply go_label | apply go_exit | apply go_ret | (apply go_mut; (· assumption); · (simp (disch := omega) [go_sem, *, -List.reduceReplicate]; first | exact ⟨rfl, rfl⟩ | (simp [go_sem, *]; exact ⟨rfl, rfl⟩))) | (apply go_mutP; (· assumption); · (simp (disch := omega) [go_sem, *, -List.reduceReplicate]; try first | rfl | exact ⟨rfl, rfl⟩ | exact ⟨rfl, rfl, rfl⟩)) | (apply go_guard_in; (· rfl); · (simp (disch := omega) [go_sem, *, -List.reduceReplicate]; try first | rfl | omega)) | (apply go_guard_off; (· rfl); · (simp (disch := omega) [go_sem, *, -List.reduceReplicate]; try first | rfl | omega)) | (apply go_guard_no; (· rfl); · (simp (disch := omega) [go_sem, *, -List.reduceReplicate]; try rfl)) | ((first | apply go_move | apply go_assign | apply go_load | apply go_store | apply go_append | apply go_copy | apply go_copy0 | apply go_clear0 | apply go_slice3 | apply go_indexA); · (simp (disch := omega) [go_sem, *, -List.reduceReplicate]; try first | rfl | exact ⟨rfl, rfl⟩ | exact ⟨rfl, rfl, rfl⟩)) | ((first | apply go_loadv | apply go_append0 | apply go_beyond); · (simp (disch := omega) [go_sem, *, -List.reduceReplicate]; try first | rfl | exact ⟨rfl, rfl⟩ | exact ⟨rfl, rfl, rfl⟩)) | (apply go_appself; · (simp (disch := omega) [go_sem, *, -List.reduceReplicate]; try first | rfl | exact ⟨rfl, rfl⟩ | exact ⟨rfl, rfl, rfl⟩)) | ((first | (apply go_appendz; · rfl) | (apply go_new; · rfl) | (apply go_pure; · rfl)); · (simp (disch := omega) [go_sem, *, -List.reduceReplicate]; try first | rfl | exact ⟨rfl, rfl⟩ | exact ⟨rfl, rfl, rfl⟩)) | ((apply go_glob; · assumption); · (simp (disch := omega) [go_sem, *, -List.reduceReplicate]; try first | rfl | exact ⟨rfl, rfl⟩ | exact ⟨rfl, rfl, rfl⟩)) | (apply go_read1; (· rfl); · (simp (disch := omega) [go_sem, *, -List.reduceReplicate]; try first | rfl | exact ⟨rfl, rfl⟩ | exact ⟨rfl, rfl, rfl⟩)) | (apply go_rw1; (· rfl); · (simp (disch := omega) [go_sem, *, -List.reduceReplicate]; try first | rfl | exact ⟨rfl, rfl⟩ | exact ⟨rfl, rfl, rfl⟩)) | (apply go_new1; (· rfl); · (simp (disch := omega) [go_sem, *, -List.reduceReplicate]; try first | rfl | exact ⟨rfl, rfl⟩ | exact ⟨rfl, rfl, rfl⟩)) | (apply go_conv; · (simp (disch := omega) [go_sem, *, -List.reduceReplicate]; try first | rfl | exact ⟨rfl, rfl⟩ | exact ⟨rfl, rfl, rfl⟩)) | ((first | (apply go_new; · rfl) | (apply go_pure; · rfl)); · (simp (disch := omega) [go_sem, *, -List.reduceReplicate]; simp [go_sem, *]; try first | rfl | exact ⟨rfl, rfl⟩)) | (apply go_condT; · (simp (disch := omega) [go_sem, *, -List.reduceReplicate]; try first | rfl | omega; done)) | (apply go_condF; · (simp (disch := omega) [go_sem, *, -List.reduceReplicate]; try first | rfl | omega; done)) | (obtain ⟨hcall, hcs⟩ := hcs; refine go_callw (hcall _) (by simp (disch := omega) [go_sem, *, -List.reduceReplicate]; try rfl) (by simp (disch := omega) [go_sem, *, -List.reduceReplicate]; repeat' first | exact ALe.nil | exact AV.le_refl _ | exact AV.le_nils | exact AV.le_own _ _ | apply ALe.cons | apply AV.sub_agg) (by simp (disch := omega) [go_sem, *, -List.reduceReplicate]) ?_; clear hcall))
      exact ⟨WS, WG, WN, _, (show 8 - (t + 1) < m_2 by omega), t + 1, L.set t (W.cv (p + q)), rfl, WF, WF, WC, WC⟩
  · have htl : (t : Int) < 64 := by omega
    have htn : t < 64 := by omega
    have htw : t < w.length := by omega
    have hk1 := shaL_at t htn
    have hk2 := shaL_take t htn
    have hkd : shaZ.getD t 0 = shaZ[t]'(by rw [shaZ_len]; exact htn) := by
      rw [List.getD_eq_getElem?_getD, List.getElem?_eq_getElem (by rw [shaZ_len]; exact htn)]; rfl
    have hwd : w.getD t 0 = w[t] := by
      rw [List.getD_eq_getElem?_getD, List.getElem?_eq_getElem htw]; rfl
    generalize shaZ[t]'(by rw [shaZ_len]; exact htn) = kt at *
    obtain ⟨wt, hwt⟩ : ∃ x, w[t] = x := ⟨_, rfl⟩
    rw [hwt] at hwd
    have hS : Rd w o (t + 1) = rnd x kt wt := by rw [Rd, hx, hkd, hwd]
    clear hkd hwd hx
    obtain ⟨xa, xb, xc, xd, xe, xf, xg, xh⟩ := x
    simp only [V8.l] at *
    obtain ⟨s1, hs1⟩ : ∃ z, W.x32 (W.x32 (W.rotr xe 6) (W.rotr xe 11)) (W.rotr xe 25) = z := ⟨_, rfl⟩
    obtain ⟨s0, hs0⟩ : ∃ z, W.x32 (W.x32 (W.rotr xa 2) (W.rotr xa 13)) (W.rotr xa 22) = z := ⟨_, rfl⟩
    obtain ⟨ch, hch⟩ : ∃ z, W.x32 (W.n32 xe xf) (W.n32 (W.x32 4294967295 xe) xg) = z := ⟨_, rfl⟩
    obtain ⟨mj, hmj⟩ : ∃ z, W.x32 (W.x32 (W.n32 xa xb) (W.n32 xa xc)) (W.n32 xb xc) = z := ⟨_, rfl⟩
    obtain ⟨t1, ht1⟩ : ∃ z, W.cv (W.cv (W.cv (W.cv (xh + s1) + ch) + kt) + wt) = z := ⟨_, rfl⟩
    obtain ⟨t2, ht2⟩ : ∃ z, W.cv (s0 + mj) = z := ⟨_, rfl⟩
    have hS' : rnd ⟨xa, xb, xc, xd, xe, xf, xg, xh⟩ kt wt = ⟨W.cv (t1 + t2), xa, xb, xc, W.cv (xd + t1), xe, xf, xg⟩ := by
      unfold rnd T1 T2 S1 S0 Ch Maj
      simp only [hs1, hs0, hch, hmj, ht1, ht2]
    rw [hS'] at hS
    clear hS'
    have r1 := rot_spec xe 6 (by omega)
    have r2 := rot_spec xe 11 (by omega)
    have r3 := rot_spec xe 25 (by omega)
    have r4 := rot_spec xa 2 (by omega)
    have r5 := rot_spec xa 13 (by omega)
    have r6 := rot_spec xa 22 (by omega)
    have hcs := And.intro r1 (And.intro r2 (And.intro r3 (And.intro r4 (And.intro r5 (And.intro r6 True.intro)))))
    clear r1 r2 r3 r4 r5 r6
    have G : GlobAt g 1 := ⟨⟩
    repeat (first | apply go_nil | apply go_kreg | apply go_kreg0 | apply go_kreg1 | (apply go_kregT; · (first | (simp [addT, CF, CFy, Ind, DisjF]; done) | (simp only [addT, CF, CFy, Ind]; repeat' (first | exact trivial | apply And.intro | exact Or.inl (by decide +kernel) | (refine Or.inr ⟨?_, ?_⟩ <;> (simp; try omega)))))) | apply go_then | apply go_then_exit | apply go_then_ret | apply go_blk | apply go_blk_ret | apply go_blk_here | (apply go_blk_there; · rfl) | apply go_seq | (apply go_region; · (simp only [List.length_cons, List.length_nil, Nat.reduceAdd, Nat.add_assoc]; rfl)) | apply go_skip | apply go_block | apply go_scope | apply go_label | apply go_exit | apply go_ret | (apply go_mut; (· assumption); · (simp (disch := omega) [go_sem, *, -List.reduceReplicate]; first | exact ⟨rfl, rfl⟩ | (simp [go_sem, *]; exact ⟨rfl, rfl⟩))) | (apply go_mutP; (· assumption); · (simp (disch := omega) [go_sem, *, -List.reduceReplicate]; try first | rfl | exact ⟨rfl, rfl⟩ | exact ⟨rfl, rfl, rfl⟩)) | (apply go_guard_in; (· rfl); · (simp (disch := omega) [go_sem, *, -List.reduceReplicate]; try first | rfl | omega)) | (apply go_guard_off; (· rfl); · (simp (disch := omega) [go_sem, *, -List.reduceReplicate]; try first | rfl | omega)) | (apply go_guard_no; (· rfl); · (simp (disch := omega) [go_sem, *, -List.reduceReplicate]; try rfl)) | ((first | apply go_move | apply go_assign | apply go_load | apply go_store | apply go_append | apply go_copy | apply go_copy0 | apply go_clear0 | apply go_slice3 | apply go_indexA); · (simp (disch := omega) [go_sem, *, -List.reduceReplicate]; try first | rfl | exact ⟨rfl, rfl⟩ | exact ⟨rfl, rfl, rfl⟩)) | ((first | apply go_loadv | apply go_append0 | apply go_beyond); · (simp (disch := omega) [go_sem, *, -List.reduceReplicate]; try first | rfl | exact ⟨rfl, rfl⟩ | exact ⟨rfl, rfl, rfl⟩)) | (apply go_appself; · (simp (disch := omega) [go_sem, *, -List.reduceReplicate]; try first | rfl | exact ⟨rfl, rfl⟩ | exact ⟨rfl, rfl, rfl⟩)) | ((first | (apply go_appendz; · rfl) | (apply go_new; · rfl) | (apply go_pure; · rfl)); · (simp (disch := omega) [go_sem, *, -List.reduceReplicate]; try first | rfl | exact ⟨rfl, rfl⟩ | exact ⟨rfl, rfl, rfl⟩)) | ((apply go_glob; · assumption); · (simp (disch := omega) [go_sem, *, -List.reduceReplicate]; try first | rfl | exact ⟨rfl, rfl⟩ | exact ⟨rfl, rfl, rfl⟩)) | (apply go_read1; (· rfl); · (simp (disch := omega) [go_sem, *, -List.reduceReplicate]; try first | rfl | exact ⟨rfl, rfl⟩ | exact ⟨rfl, rfl, rfl⟩)) | (apply go_rw1; (· rfl); · (simp (disch := omega) [go_sem, *, -List.reduceReplicate]; try first | rfl | exact ⟨rfl, rfl⟩ | exact ⟨rfl, rfl, rfl⟩)) | (apply go_new1; (· rfl); · (simp (disch := omega) [go_sem, *, -List.reduceReplicate]; try first | rfl | exact ⟨rfl, rfl⟩ | exact ⟨rfl, rfl, rfl⟩)) | (apply go_conv; · (simp (disch := omega) [go_sem, *, -List.reduceReplicate]; try first | rfl | exact ⟨rfl, rfl⟩ | exact ⟨rfl, rfl, rfl⟩)) | ((first | (apply go_new; · rfl) | (apply go_pure; · rfl)); · (simp (disch := omega) [go_sem, *, -List.reduceReplicate]; simp [go_sem, *]; try first | rfl | exact ⟨rfl, rfl⟩)) | (apply go_condT; · (simp (disch := omega) [go_sem, *, -List.reduceReplicate]; try first | rfl | omega; done)) | (apply go_condF; · (simp (disch := omega) [go_sem, *, -List.reduceReplicate]; try first | rfl | omega; done)) | (obtain ⟨hcall, hcs⟩ := hcs; refine go_callw (hcall _) (by simp (disch := omega) [go_sem, *, -List.reduceReplicate]; try rfl) (by simp (disch := omega) [go_sem, *, -List.reduceReplicate]; repeat' first | exact ALe.nil | exact AV.le_refl _ | exact AV.le_nils | exact AV.le_own _ _ | apply ALe.cons | apply AV.sub_agg) (by simp (disch := omega) [go_sem, *, -List.reduceReplicate]) ?_; clear hcall))
    exact ⟨WS, WG, WN, _, (show 64 - (t + 1) < m_1 by omega), t + 1, V8.mk (W.cv (t1 + t2)) xa xb xc (W.cv (xd + t1)) xe xf xg, rfl, WF, WF, WC, WC⟩
end
end Go.Proofs.YtaelnglalpiemaaDoor

/- SHA-256: the reference's block. -/
namespace Go.Proofs.YtaelnglalpiemaaDoor
open Go.Ab
attribute [local irreducible] Go.Ab.tyAV Go.Ab.aw Go.Ab.aops Go.Ab.kReg Go.Ab.aThen Go.Ab.aBlk Go.Ab.acond Go.Ab.aguard Go.Ab.astep Go.Ab.AStepX Go.Ab.aRet

theorem constants_spec (k : Nat) : ACall Tryd.prog 108 [] k [] (uuAV shaZ) [] := by
  refine ACall.of_body mixed Tryd.func108 rfl (by kernel_rfl) Tryd.ntmps108 (by kernel_rfl) rfl (by simp) (by simp) (by simp) fun σ N hp hpn hk hkn hfree => ?_
  repeat (first | apply go_nil | apply go_kreg | apply go_kreg0 | apply go_kreg1 | (apply go_kregT; · (first | (simp [addT, CF, CFy, Ind, DisjF]; done) | (simp only [addT, CF, CFy, Ind]; repeat' (first | exact trivial | apply And.intro | exact Or.inl (by decide +kernel) | (refine Or.inr ⟨?_, ?_⟩ <;> (simp; try omega)))))) | apply go_then | apply go_then_exit | apply go_then_ret | apply go_blk | apply go_blk_ret | apply go_blk_here | (apply go_blk_there; · rfl) | apply go_seq | (apply go_region; · (simp only [List.length_cons, List.length_nil, Nat.reduceAdd, Nat.add_assoc]; rfl)) | apply go_skip | apply go_block | apply go_scope | apply go_label | apply go_exit | apply go_ret)
  apply go_new
  · rfl
  · (simp (disch := omega) [go_sem, *, -List.reduceReplicate]; try first | rfl | exact ⟨rfl, rfl⟩ | exact ⟨rfl, rfl, rfl⟩)
  repeat (first | apply go_nil | apply go_kreg | apply go_kreg0 | apply go_kreg1 | (apply go_kregT; · (first | (simp [addT, CF, CFy, Ind, DisjF]; done) | (simp only [addT, CF, CFy, Ind]; repeat' (first | exact trivial | apply And.intro | exact Or.inl (by decide +kernel) | (refine Or.inr ⟨?_, ?_⟩ <;> (simp; try omega)))))) | apply go_then | apply go_then_exit | apply go_then_ret | apply go_blk | apply go_blk_ret | apply go_blk_here | (apply go_blk_there; · rfl) | apply go_seq | (apply go_region; · (simp only [List.length_cons, List.length_nil, Nat.reduceAdd, Nat.add_assoc]; rfl)) | apply go_skip | apply go_block | apply go_scope | apply go_label | apply go_exit | apply go_ret)
  refine go_pure (v := uuAV shaZ) rfl (by kernel_rfl) ?_
  have hzl := shaZ_len
  exact W0
section
variable [W : W32]
set_option maxHeartbeats 4000000 in
theorem refblock_spec (o : V8) (b : List UInt8) (hb : b.length = 64) (k : Nat) :
    ACall Tryd.prog 94 [v8AV o, .slice none (b.map byteAV)] k [] (v8AV (chg o b)) [] := by
  obtain ⟨w, hw⟩ : ∃ w, Wd b 64 = w := ⟨_, rfl⟩
  have hwl : w.length = 64 := by rw [← hw]; exact Wd_len b 64
  have hz : List.replicate 64 (0 : Int) = Wd b 0 := by unfold Wd; rfl
  obtain ⟨Z, hZ⟩ : ∃ Z, Wd b 0 = Z := ⟨_, rfl⟩
  have hZl : Z.length = 64 := by rw [← hZ]; exact Wd_len b 0
  rw [hZ] at hz
  have c1 := constants_spec
  obtain ⟨v, hv⟩ : ∃ v, Rd w o 64 = v := ⟨_, rfl⟩
  have hR : chg o b = addV v o := by rw [chg, hw, hv]
  rw [hR, v8AV, v8AV, ← Ad_8']
  clear hR
  obtain ⟨ol, hol⟩ : ∃ l, o.l = l := ⟨_, rfl⟩
  have holl : ol.length = 8 := by rw [← hol]; rfl
  rw [hol]
  refine ACall.of_body mixed Tryd.func94 rfl (by kernel_rfl) Tryd.ntmps94 (by kernel_rfl) rfl (by simp) (by simp) (by simp) fun σ N hp hpn hk hkn hfree => ?_
  refine Wk ?_
  refine go_loopF mixed (by kernel_rfl) [6, 22, 23, 24, 25, 26, 27, 28, 29, 30, 31, 32, 33, 34, 35, 36, 37, 38, 39, 40, 41, 42, 43, 44, 45, 46, 47, 48, 49, 50, 51, 52, 53, 54, 55, 56, 57, 58, 59, 60] [N+2] (fun m_ s_ σ_ n_ => ∃ (t : Nat) (L : List Int), m_ = 16 - t ∧ s_ 6 = .lit (.int .i64 t) ∧ σ_ (N+2) = .box 134 (uuAV L) ∧ (t ≤ 16) ∧ (Wd b t = L)) ⟨_, 0, Z, rfl, WF, WF, WC, WC⟩ ?_
  intro m_1 s_1 σ_1 n_1 hs_1 hf_1 hn_1 hI_1
  obtain ⟨t, L, hm_1, h1_6, e1_0, ht, hL⟩ := hI_1
  have h1_1 := (hs_1.at 1 (by decide)).trans WE
  have h1_2 := (hs_1.at 2 (by decide)).trans WE
  have h1_4 := (hs_1.at 4 (by decide)).trans WE
  have h1_5 := (hs_1.at 5 (by decide)).trans WE
  have k1_0 := (hf_1.at (N) (by omega) WQ).trans WE
  have k1_1 := (hf_1.at (N+1) (by omega) WQ).trans WE
  have hlow : ∀ id, id < N → σ_1 id = σ id := fun id hid => (hf_1.at id (by omega) WQ).trans WH
  have hlen : L.length = 64 := by rw [← hL]; exact Wd_len b t
  by_cases h16 : t < 16
  · have h16' : (t : Int) < 16 := by omega
    have htl : t < 64 := by omega
    have hw := Wd_lo b t h16
    rw [hL] at hw
    have i0 : (4 * (t : Int)).toNat = 4 * t := by omega
    have i1 : (4 * (t : Int) + 1).toNat = 4 * t + 1 := by omega
    have i2 : (4 * (t : Int) + 2).toNat = 4 * t + 2 := by omega
    have i3 : (4 * (t : Int) + 3).toNat = 4 * t + 3 := by omega
    have hlt0 : 4 * t < b.length := by omega
    have hlt1 : 4 * t + 1 < b.length := by omega
    have hlt2 : 4 * t + 2 < b.length := by omega
    have hlt3 : 4 * t + 3 < b.length := by omega
    obtain ⟨c0, g0⟩ : ∃ c, b[4 * t] = c := ⟨_, rfl⟩
    obtain ⟨c1, g1⟩ : ∃ c, b[4 * t + 1] = c := ⟨_, rfl⟩
    obtain ⟨c2, g2⟩ : ∃ c, b[4 * t + 2] = c := ⟨_, rfl⟩
    obtain ⟨c3, g3⟩ : ∃ c, b[4 * t + 3] = c := ⟨_, rfl⟩
    have hwd := word_at hlt3 g0 g1 g2 g3
    generalize word b t = wt at *
    have e0 : byteAV c0 = .lit (.int .u8 c0.toNat) := rfl
    have e1 : byteAV c1 = .lit (.int .u8 c1.toNat) := rfl
    have e2 : byteAV c2 = .lit (.int .u8 c2.toNat) := rfl
    have e3 : byteAV c3 = .lit (.int .u8 c3.toNat) := rfl
    clear hL
    repeat (first | apply go_nil | apply go_kreg | apply go_kreg0 | apply go_kreg1 | (apply go_kregT; · (first | (simp [addT, CF, CFy, Ind, DisjF]; done) | (simp only [addT, CF, CFy, Ind]; repeat' (first | exact trivial | apply And.intro | exact Or.inl (by decide +kernel) | (refine Or.inr ⟨?_, ?_⟩ <;> (simp; try omega)))))) | apply go_then | apply go_then_exit | apply go_then_ret | apply go_blk | apply go_blk_ret | apply go_blk_here | (apply go_blk_there; · rfl) | apply go_seq | (apply go_region; · (simp only [List.length_cons, List.length_nil, Nat.reduceAdd, Nat.add_assoc]; rfl)) | apply go_skip | apply go_block | apply go_scope | apply go_label | apply go_exit | apply go_ret | (apply go_mut; (· assumption); · (simp (disch := omega) [go_sem, *, -List.reduceReplicate]; first | exact ⟨rfl, rfl⟩ | (simp [go_sem, *]; exact ⟨rfl, rfl⟩))) | (apply go_mutP; (· assumption); · (simp (disch := omega) [go_sem, *, -List.reduceReplicate]; try first | rfl | exact ⟨rfl, rfl⟩ | exact ⟨rfl, rfl, rfl⟩)) | (apply go_guard_in; (· rfl); · (simp (disch := omega) [go_sem, *, -List.reduceReplicate]; try first | rfl | omega)) | (apply go_guard_off; (· rfl); · (simp (disch := omega) [go_sem, *, -List.reduceReplicate]; try first | rfl | omega)) | (apply go_guard_no; (· rfl); · (simp (disch := omega) [go_sem, *, -List.reduceReplicate]; try rfl)) | ((first | apply go_move | apply go_assign | apply go_load | apply go_store | apply go_append | apply go_copy | apply go_copy0 | apply go_clear0 | apply go_slice3 | apply go_indexA); · (simp (disch := omega) [go_sem, *, -List.reduceReplicate]; try first | rfl | exact ⟨rfl, rfl⟩ | exact ⟨rfl, rfl, rfl⟩)) | ((first | apply go_loadv | apply go_append0 | apply go_beyond); · (simp (disch := omega) [go_sem, *, -List.reduceReplicate]; try first | rfl | exact ⟨rfl, rfl⟩ | exact ⟨rfl, rfl, rfl⟩)) | (apply go_appself; · (simp (disch := omega) [go_sem, *, -List.reduceReplicate]; try first | rfl | exact ⟨rfl, rfl⟩ | exact ⟨rfl, rfl, rfl⟩)) | ((first | (apply go_appendz; · rfl) | (apply go_new; · rfl) | (apply go_pure; · rfl)); · (simp (disch := omega) [go_sem, *, -List.reduceReplicate]; try first | rfl | exact ⟨rfl, rfl⟩ | exact ⟨rfl, rfl, rfl⟩)) | ((apply go_glob; · assumption); · (simp (disch := omega) [go_sem, *, -List.reduceReplicate]; try first | rfl | exact ⟨rfl, rfl⟩ | exact ⟨rfl, rfl, rfl⟩)) | (apply go_read1; (· rfl); · (simp (disch := omega) [go_sem, *, -List.reduceReplicate]; try first | rfl | exact ⟨rfl, rfl⟩ | exact ⟨rfl, rfl, rfl⟩)) | (apply go_rw1; (· rfl); · (simp (disch := omega) [go_sem, *, -List.reduceReplicate]; try first | rfl | exact ⟨rfl, rfl⟩ | exact ⟨rfl, rfl, rfl⟩)) | (apply go_new1; (· rfl); · (simp (disch := omega) [go_sem, *, -List.reduceReplicate]; try first | rfl | exact ⟨rfl, rfl⟩ | exact ⟨rfl, rfl, rfl⟩)) | (apply go_conv; · (simp (disch := omega) [go_sem, *, -List.reduceReplicate]; try first | rfl | exact ⟨rfl, rfl⟩ | exact ⟨rfl, rfl, rfl⟩)) | ((first | (apply go_new; · rfl) | (apply go_pure; · rfl)); · (simp (disch := omega) [go_sem, *, -List.reduceReplicate]; simp [go_sem, *]; try first | rfl | exact ⟨rfl, rfl⟩)) | (apply go_condT; · (simp (disch := omega) [go_sem, *, -List.reduceReplicate]; try first | rfl | omega; done)) | (apply go_condF; · (simp (disch := omega) [go_sem, *, -List.reduceReplicate]; try first | rfl | omega; done)) | (obtain ⟨hcall, hcs⟩ := hcs; refine go_callw (hcall _) (by simp (disch := omega) [go_sem, *, -List.reduceReplicate]; try rfl) (by simp (disch := omega) [go_sem, *, -List.reduceReplicate]; repeat' first | exact ALe.nil | exact AV.le_refl _ | exact AV.le_nils | exact AV.le_own _ _ | apply ALe.cons | apply AV.sub_agg) (by simp (disch := omega) [go_sem, *, -List.reduceReplicate]) ?_; clear hcall))
    clear hwd e0 e1 e2 e3 g0 g1 g2 g3 i0 i1 i2 i3
    exact ⟨WS, WG, WN, _, (show 16 - (t + 1) < m_1 by omega), t + 1, L.set t wt, rfl, WF, WF, WC, WC⟩
  · have ht16 : t = 16 := by omega
    subst ht16
    clear h16 ht
    refine Wk ?_
    refine go_loopF mixed (by kernel_rfl) [7, 8, 9, 61, 62, 63, 64, 65, 66, 67, 68, 69, 70, 71, 72, 73, 74, 75, 76, 77, 78, 79, 80, 81, 82, 83, 84, 85, 86, 87, 88, 89, 90, 91, 92, 93, 94, 95, 96, 97, 98, 99, 100, 101] [N+2] (fun m_ s_ σ_ n_ => ∃ (t : Nat) (L : List Int), m_ = 64 - t ∧ s_ 7 = .lit (.int .i64 t) ∧ σ_ (N+2) = .box 134 (uuAV L) ∧ (t ≤ 64) ∧ (¬ t < 16) ∧ (Wd b t = L)) ⟨_, 16, L, rfl, WF, WF, WC, WC, WC⟩ ?_
    intro m_2 s_2 σ_2 n_2 hs_2 hf_2 hn_2 hI_2
    obtain ⟨t, L, hm_2, h2_7, e2_0, ht, h16, hL⟩ := hI_2
    have h2_2 := (hs_2.at 2 (by decide)).trans WE
    have h2_4 := (hs_2.at 4 (by decide)).trans WE
    have h2_5 := (hs_2.at 5 (by decide)).trans WE
    have k2_0 := (hf_2.at (N) (by omega) WQ).trans WE
    have k2_1 := (hf_2.at (N+1) (by omega) WQ).trans WE
    have hlow : ∀ id, id < N → σ_2 id = σ id := fun id hid => (hf_2.at id (by omega) WQ).trans (by first | exact hlow id hid | exact WH)
    have hlen : L.length = 64 := by rw [← hL]; exact Wd_len b t
    by_cases ht64 : t = 64
    · subst ht64
      rw [hw] at hL
      subst hL
      have hcs := And.intro c1 True.intro
      have hR0 : Rd w o 0 = o := rfl
      have hzl := shaZ_len
      refine Wk ?_
      refine go_loopF mixed (by kernel_rfl) (12 :: 13 :: 14 :: 15 :: 16 :: 17 :: 18 :: 19 :: 20 :: 104 :: 105 :: 106 :: 107 :: 108 :: 109 :: 110 :: 111 :: 112 :: 113 :: 114 :: 115 :: 116 :: 117 :: 118 :: 119 :: 120 :: 121 :: 122 :: 123 :: 124 :: 125 :: 126 :: 127 :: 128 :: 129 :: 130 :: 131 :: 132 :: 133 :: 134 :: 135 :: 136 :: 137 :: 138 :: 139 :: 140 :: 141 :: 142 :: 143 :: 144 :: 145 :: 146 :: 147 :: 148 :: 149 :: 150 :: 151 :: 152 :: 153 :: 154 :: 155 :: 156 :: 157 :: 158 :: 159 :: 160 :: 161 :: 162 :: 163 :: 164 :: 165 :: 166 :: 167 :: 168 :: 169 :: 170 :: 171 :: 172 :: 173 :: 174 :: 175 :: 176 :: 177 :: 178 :: 179 :: 180 :: 181 :: 182 :: 183 :: 184 :: 185 :: 186 :: 187 :: []) [n_2+6] (fun m_ s_ σ_ n_ => ∃ (t : Nat) (x : V8), m_ = 64 - t ∧ s_ 12 = .lit (.int .i64 t) ∧ σ_ (n_2+6) = .box 116 (uuAV x.l) ∧ (t ≤ 64) ∧ (Rd w o t = x)) ⟨_, 0, o, rfl, WF, WF, WC, WC⟩ ?_
      intro m_3 s_3 σ_3 n_3 hs_3 hf_3 hn_3 hI_3
      obtain ⟨t, x, hm_3, h3_12, e3_0, ht, hx⟩ := hI_3
      have h3_2 := (hs_3.at 2 (by decide)).trans WE
      have h3_4 := (hs_3.at 4 (by decide)).trans WE
      have h3_5 := (hs_3.at 5 (by decide)).trans WE
      have h3_10 := (hs_3.at 10 (by decide)).trans WE
      have h3_11 := (hs_3.at 11 (by decide)).trans WE
      have k3_0 := (hf_3.at (N) (by omega) WQ).trans WE
      have k3_1 := (hf_3.at (N+1) (by omega) WQ).trans WE
      have k3_2 := (hf_3.at (N+2) (by omega) WQ).trans WE
      have k3_3 := (hf_3.at (n_2+3) (by omega) WQ).trans WE
      have hlow : ∀ id, id < N → σ_3 id = σ id := fun id hid => (hf_3.at id (by omega) WQ).trans (by first | exact hlow id hid | exact WH)
      by_cases ht64 : t = 64
      · subst ht64
        rw [hv] at hx
        subst hx
        generalize hvl : V8.l v = vl at *
        have hvll : vl.length = 8 := by rw [← hvl]; rfl
        have hR0 : Ad ol vl 0 = ol := rfl
        refine Wk ?_
        refine go_loopF mixed (by kernel_rfl) [21, 188, 189, 190, 191, 192, 193, 194, 195, 196, 197, 198, 199, 200] [N] (fun m_ s_ σ_ n_ => ∃ (t : Nat) (L : List Int), m_ = 8 - t ∧ s_ 21 = .lit (.int .i64 t) ∧ σ_ (N) = .box 116 (uuAV L) ∧ (t ≤ 8) ∧ (Ad ol vl t = L)) ⟨_, 0, ol, rfl, WF, WF, WC, WC⟩ ?_
        intro m_4 s_4 σ_4 n_4 hs_4 hf_4 hn_4 hI_4
        obtain ⟨t, L, hm_4, h4_21, e4_0, ht, hL⟩ := hI_4
        have h4_2 := (hs_4.at 2 (by decide)).trans WE
        have h4_4 := (hs_4.at 4 (by decide)).trans WE
        have h4_11 := (hs_4.at 11 (by decide)).trans WE
        have k4_0 := (hf_4.at (N+1) (by omega) WQ).trans WE
        have k4_1 := (hf_4.at (n_2+6) (by omega) WQ).trans WE
        have hlow : ∀ id, id < N → σ_4 id = σ id := fun id hid => (hf_4.at id (by omega) WQ).trans (by first | exact hlow id hid | exact WH)
        have hlen : L.length = 8 := by rw [← hL, Ad_len, holl]
        by_cases ht8 : t = 8
        · subst ht8
          subst hL
          exact W0
        · have htl : (t : Int) < 8 := by omega
          have htl' : t < 8 := by omega
          have htn : t < L.length := by omega
          have htn' : t < vl.length := by omega
          obtain ⟨p, hp⟩ : ∃ x, L[t] = x := ⟨_, rfl⟩
          obtain ⟨q, hq⟩ : ∃ x, vl[t] = x := ⟨_, rfl⟩
          have hS : Ad ol vl (t + 1) = L.set t (W.cv (p + q)) := by
            rw [Ad, hL, List.getD_eq_getElem?_getD, List.getElem?_eq_getElem htn, List.getD_eq_getElem?_getD, List.getElem?_eq_getElem htn', hp, hq]; rfl
          clear hL
          repeat (first | apply go_nil | apply go_kreg | apply go_kreg0 | apply go_kreg1 | (apply go_kregT; · (first | (simp [addT, CF, CFy, Ind, DisjF]; done) | (simp only [addT, CF, CFy, Ind]; repeat' (first | exact trivial | apply And.intro | exact Or.inl (by decide +kernel) | (refine Or.inr ⟨?_, ?_⟩ <;> (simp; try omega)))))) | apply go_then | apply go_then_exit | apply go_then_ret | apply go_blk | apply go_blk_ret | apply go_blk_here | (apply go_blk_there; · rfl) | apply go_seq | (apply go_region; · (simp only [List.length_cons, List.length_nil, Nat.reduceAdd, Nat.add_assoc]; rfl)) | apply go_skip | apply go_block | apply go_scope | apply go_label | apply go_exit | apply go_ret | (apply go_mut; (· assumption); · (simp (disch := omega) [go_sem, *, -List.reduceReplicate]; first | exact ⟨rfl, rfl⟩ | (simp [go_sem, *]; exact ⟨rfl, rfl⟩))) | (apply go_mutP; (· assumption); · (simp (disch := omega) [go_sem, *, -List.reduceReplicate]; try first | rfl | exact ⟨rfl, rfl⟩ | exact ⟨rfl, rfl, rfl⟩)) | (apply go_guard_in; (· rfl); · (simp (disch := omega) [go_sem, *, -List.reduceReplicate]; try first | rfl | omega)) | (apply go_guard_off; (· rfl); · (simp (disch := omega) [go_sem, *, -List.reduceReplicate]; try first | rfl | omega)) | (apply go_guard_no; (· rfl); · (simp (disch := omega) [go_sem, *, -List.reduceReplicate]; try rfl)) | ((first | apply go_move | apply go_assign | apply go_load | apply go_store | apply go_append | apply go_copy | apply go_copy0 | apply go_clear0 | apply go_slice3 | apply go_indexA); · (simp (disch := omega) [go_sem, *, -List.reduceReplicate]; try first | rfl | exact ⟨rfl, rfl⟩ | exact ⟨rfl, rfl, rfl⟩)) | ((first | apply go_loadv | apply go_append0 | apply go_beyond); · (simp (disch := omega) [go_sem, *, -List.reduceReplicate]; try first | rfl | exact ⟨rfl, rfl⟩ | exact ⟨rfl, rfl, rfl⟩)) | (apply go_appself; · (simp (disch := omega) [go_sem, *, -List.reduceReplicate]; try first | rfl | exact ⟨rfl, rfl⟩ | exact ⟨rfl, rfl, rfl⟩)) | ((first | (apply go_appendz; · rfl) | (apply go_new; · rfl) | (apply go_pure; · rfl)); · (simp (disch := omega) [go_sem, *, -List.reduceReplicate]; try first | rfl | exact ⟨rfl, rfl⟩ | exact ⟨rfl, rfl, rfl⟩)) | ((apply go_glob; · assumption); · (simp (disch := omega) [go_sem, *, -List.reduceReplicate]; try first | rfl | exact ⟨rfl, rfl⟩ | exact ⟨rfl, rfl, rfl⟩)) | (apply go_read1; (· rfl); · (simp (disch := omega) [go_sem, *, -List.reduceReplicate]; try first | rfl | exact ⟨rfl, rfl⟩ | exact ⟨rfl, rfl, rfl⟩)) | (apply go_rw1; (· rfl); · (simp (disch := omega) [go_sem, *, -List.reduceReplicate]; try first | rfl | exact ⟨rfl, rfl⟩ | exact ⟨rfl, rfl, rfl⟩)) | (apply go_new1; (· rfl); · (simp (disch := omega) [go_sem, *, -List.reduceReplicate]; try first | rfl | exact ⟨rfl, rfl⟩ | exact ⟨rfl, rfl, rfl⟩)) | (apply go_conv; · (simp (disch := omega) [go_sem, *, -List.reduceReplicate]; try first | rfl | exact ⟨rfl, rfl⟩ | exact ⟨rfl, rfl, rfl⟩)) | ((first | (apply go_new; · rfl) | (apply go_pure; · rfl)); · (simp (disch := omega) [go_sem, *, -List.reduceReplicate]; simp [go_sem, *]; try first | rfl | exact ⟨rfl, rfl⟩)) | (apply go_condT; · (simp (disch := omega) [go_sem, *, -List.reduceReplicate]; try first | rfl | omega; done)) | (apply go_condF; · (simp (disch := omega) [go_sem, *, -List.reduceReplicate]; try first | rfl | omega; done)) | (obtain ⟨hcall, hcs⟩ := hcs; refine go_callw (hcall _) (by simp (disch := omega) [go_sem, *, -List.reduceReplicate]; try rfl) (by simp (disch := omega) [go_sem, *, -List.reduceReplicate]; repeat' first | exact ALe.nil | exact AV.le_refl _ | exact AV.le_nils | exact AV.le_own _ _ | apply ALe.cons | apply AV.sub_agg) (by simp (disch := omega) [go_sem, *, -List.reduceReplicate]) ?_; clear hcall))
          exact ⟨WS, WG, WN, _, (show 8 - (t + 1) < m_4 by omega), t + 1, L.set t (W.cv (p + q)), rfl, WF, WF, WC, WC⟩
      · have htl : (t : Int) < 64 := by omega
        have htn : t < 64 := by omega
        have htw : t < w.length := by omega
        have htz : t < shaZ.length := by omega
        have hkd : shaZ.getD t 0 = shaZ[t] := by
          rw [List.getD_eq_getElem?_getD, List.getElem?_eq_getElem htz]; rfl
        have hwd : w.getD t 0 = w[t] := by
          rw [List.getD_eq_getElem?_getD, List.getElem?_eq_getElem htw]; rfl
        obtain ⟨kt, hkt⟩ : ∃ x, shaZ[t] = x := ⟨_, rfl⟩
        rw [hkt] at hkd
        obtain ⟨wt, hwt⟩ : ∃ x, w[t] = x := ⟨_, rfl⟩
        rw [hwt] at hwd
        have hS : Rd w o (t + 1) = rnd x kt wt := by rw [Rd, hx, hkd, hwd]
        clear hkd hwd hx
        obtain ⟨xa, xb, xc, xd, xe, xf, xg, xh⟩ := x
        simp only [V8.l] at *
        obtain ⟨s1, hs1⟩ : ∃ z, W.x32 (W.x32 (W.rotr xe 6) (W.rotr xe 11)) (W.rotr xe 25) = z := ⟨_, rfl⟩
        obtain ⟨s0, hs0⟩ : ∃ z, W.x32 (W.x32 (W.rotr xa 2) (W.rotr xa 13)) (W.rotr xa 22) = z := ⟨_, rfl⟩
        obtain ⟨ch, hch⟩ : ∃ z, W.x32 (W.n32 xe xf) (W.n32 (W.x32 4294967295 xe) xg) = z := ⟨_, rfl⟩
        obtain ⟨mj, hmj⟩ : ∃ z, W.x32 (W.x32 (W.n32 xa xb) (W.n32 xa xc)) (W.n32 xb xc) = z := ⟨_, rfl⟩
        obtain ⟨t1, ht1⟩ : ∃ z, W.cv (W.cv (W.cv (W.cv (xh + s1) + ch) + kt) + wt) = z := ⟨_, rfl⟩
        obtain ⟨t2, ht2⟩ : ∃ z, W.cv (s0 + mj) = z := ⟨_, rfl⟩
        have hS' : rnd ⟨xa, xb, xc, xd, xe, xf, xg, xh⟩ kt wt = ⟨W.cv (t1 + t2), xa, xb, xc, W.cv (xd + t1), xe, xf, xg⟩ := by
          unfold rnd T1 T2 S1 S0 Ch Maj
          simp only [hs1, hs0, hch, hmj, ht1, ht2]
        rw [hS'] at hS
        clear hS'
        have r1 := refrot_spec xe 6 (by omega)
        have r2 := refrot_spec xe 11 (by omega)
        have r3 := refrot_spec xe 25 (by omega)
        have r4 := refrot_spec xa 2 (by omega)
        have r5 := refrot_spec xa 13 (by omega)
        have r6 := refrot_spec xa 22 (by omega)
        have hcs := And.intro r1 (And.intro r2 (And.intro r3 (And.intro r4 (And.intro r5 (And.intro r6 True.intro)))))
        clear r1 r2 r3 r4 r5 r6 hZ hzl hol
        repeat (first | apply go_nil | apply go_kreg | apply go_kreg0 | apply go_kreg1 | (apply go_kregT; · (first | (simp [addT, CF, CFy, Ind, DisjF]; done) | (simp only [addT, CF, CFy, Ind]; repeat' (first | exact trivial | apply And.intro | exact Or.inl (by decide +kernel) | (refine Or.inr ⟨?_, ?_⟩ <;> (simp; try omega)))))) | apply go_then | apply go_then_exit | apply go_then_ret | apply go_blk | apply go_blk_ret | apply go_blk_here | (apply go_blk_there; · rfl) | apply go_seq | (apply go_region; · (simp only [List.length_cons, List.length_nil, Nat.reduceAdd, Nat.add_assoc]; rfl)) | apply go_skip | apply go_block | apply go_scope | apply go_label | apply go_exit | apply go_ret | (apply go_mut; (· assumption); · (simp (disch := omega) [go_sem, *, -List.reduceReplicate]; first | exact ⟨rfl, rfl⟩ | (simp [go_sem, *]; exact ⟨rfl, rfl⟩))) | (apply go_mutP; (· assumption); · (simp (disch := omega) [go_sem, *, -List.reduceReplicate]; try first | rfl | exact ⟨rfl, rfl⟩ | exact ⟨rfl, rfl, rfl⟩)) | (apply go_guard_in; (· rfl); · (simp (disch := omega) [go_sem, *, -List.reduceReplicate]; try first | rfl | omega)) | (apply go_guard_off; (· rfl); · (simp (disch := omega) [go_sem, *, -List.reduceReplicate]; try first | rfl | omega)) | (apply go_guard_no; (· rfl); · (simp (disch := omega) [go_sem, *, -List.reduceReplicate]; try rfl)) | ((first | apply go_move | apply go_assign | apply go_load | apply go_store | apply go_append | apply go_copy | apply go_copy0 | apply go_clear0 | apply go_slice3 | apply go_indexA); · (simp (disch := omega) [go_sem, *, -List.reduceReplicate]; try first | rfl | exact ⟨rfl, rfl⟩ | exact ⟨rfl, rfl, rfl⟩)) | ((first | apply go_loadv | apply go_append0 | apply go_beyond); · (simp (disch := omega) [go_sem, *, -List.reduceReplicate]; try first | rfl | exact ⟨rfl, rfl⟩ | exact ⟨rfl, rfl, rfl⟩)) | (apply go_appself; · (simp (disch := omega) [go_sem, *, -List.reduceReplicate]; try first | rfl | exact ⟨rfl, rfl⟩ | exact ⟨rfl, rfl, rfl⟩)) | ((first | (apply go_appendz; · rfl) | (apply go_new; · rfl) | (apply go_pure; · rfl)); · (simp (disch := omega) [go_sem, *, -List.reduceReplicate]; try first | rfl | exact ⟨rfl, rfl⟩ | exact ⟨rfl, rfl, rfl⟩)) | ((apply go_glob; · assumption); · (simp (disch := omega) [go_sem, *, -List.reduceReplicate]; try first | rfl | exact ⟨rfl, rfl⟩ | exact ⟨rfl, rfl, rfl⟩)) | (apply go_read1; (· rfl); · (simp (disch := omega) [go_sem, *, -List.reduceReplicate]; try first | rfl | exact ⟨rfl, rfl⟩ | exact ⟨rfl, rfl, rfl⟩)) | (apply go_rw1; (· rfl); · (simp (disch := omega) [go_sem, *, -List.reduceReplicate]; try first | rfl | exact ⟨rfl, rfl⟩ | exact ⟨rfl, rfl, rfl⟩)) | (apply go_new1; (· rfl); · (simp (disch := omega) [go_sem, *, -List.reduceReplicate]; try first | rfl | exact ⟨rfl, rfl⟩ | exact ⟨rfl, rfl, rfl⟩)) | (apply go_conv; · (simp (disch := omega) [go_sem, *, -List.reduceReplicate]; try first | rfl | exact ⟨rfl, rfl⟩ | exact ⟨rfl, rfl, rfl⟩)) | ((first | (apply go_new; · rfl) | (apply go_pure; · rfl)); · (simp (disch := omega) [go_sem, *, -List.reduceReplicate]; simp [go_sem, *]; try first | rfl | exact ⟨rfl, rfl⟩)) | (apply go_condT; · (simp (disch := omega) [go_sem, *, -List.reduceReplicate]; try first | rfl | omega; done)) | (apply go_condF; · (simp (disch := omega) [go_sem, *, -List.reduceReplicate]; try first | rfl | omega; done)) | (obtain ⟨hcall, hcs⟩ := hcs; refine go_callw (hcall _) (by simp (disch := omega) [go_sem, *, -List.reduceReplicate]; try rfl) (by simp (disch := omega) [go_sem, *, -List.reduceReplicate]; repeat' first | exact ALe.nil | exact AV.le_refl _ | exact AV.le_nils | exact AV.le_own _ _ | apply ALe.cons | apply AV.sub_agg) (by simp (disch := omega) [go_sem, *, -List.reduceReplicate]) ?_; clear hcall))
        exact ⟨WS, WG, WN, _, (show 64 - (t + 1) < m_3 by omega), t + 1, V8.mk (W.cv (t1 + t2)) xa xb xc (W.cv (xd + t1)) xe xf xg, rfl, WF, WF, WC, WC⟩
    · have htl : t < 64 := by omega
      have htl' : (t : Int) < 64 := by omega
      have hw := Wd_hi b t h16
      rw [hL] at hw
      have j15 : ((t : Int) - 15).toNat = t - 15 := by omega
      have j2 : ((t : Int) - 2).toNat = t - 2 := by omega
      have j7 : ((t : Int) - 7).toNat = t - 7 := by omega
      have j16 : ((t : Int) - 16).toNat = t - 16 := by omega
      have l15 : t - 15 < L.length := by omega
      have l2 : t - 2 < L.length := by omega
      have l7 : t - 7 < L.length := by omega
      have l16 : t - 16 < L.length := by omega
      obtain ⟨x15, g15⟩ : ∃ x, L[t - 15] = x := ⟨_, rfl⟩
      obtain ⟨x2, g2⟩ : ∃ x, L[t - 2] = x := ⟨_, rfl⟩
      obtain ⟨x7, g7⟩ : ∃ x, L[t - 7] = x := ⟨_, rfl⟩
      obtain ⟨x16, g16⟩ : ∃ x, L[t - 16] = x := ⟨_, rfl⟩
      rw [nextW_at (by omega) (by omega) g2 g7 g15 g16] at hw
      have r1 := refrot_spec x2 17 (by omega)
      have r2 := refrot_spec x2 19 (by omega)
      have r3 := refrot_spec x15 7 (by omega)
      have r4 := refrot_spec x15 18 (by omega)
      have s0 : W.x32 (W.x32 (W.rotr x15 7) (W.rotr x15 18)) (x15.fdiv 8) = sg0 x15 := by unfold sg0; rfl
      have s1 : W.x32 (W.x32 (W.rotr x2 17) (W.rotr x2 19)) (x2.fdiv 1024) = sg1 x2 := by unfold sg1; rfl
      have hcs := And.intro r1 (And.intro r2 (And.intro r3 (And.intro r4 True.intro)))
      clear r1 r2 r3 r4 hL
      repeat (first | apply go_nil | apply go_kreg | apply go_kreg0 | apply go_kreg1 | (apply go_kregT; · (first | (simp [addT, CF, CFy, Ind, DisjF]; done) | (simp only [addT, CF, CFy, Ind]; repeat' (first | exact trivial | apply And.intro | exact Or.inl (by decide +kernel) | (refine Or.inr ⟨?_, ?_⟩ <;> (simp; try omega)))))) | apply go_then | apply go_then_exit | apply go_then_ret | apply go_blk | apply go_blk_ret | apply go_blk_here | (apply go_blk_there; · rfl) | apply go_seq | (apply go_region; · (simp only [List.length_cons, List.length_nil, Nat.reduceAdd, Nat.add_assoc]; rfl)) | apply go_skip | apply go_block | apply go_scope | apply go_label | apply go_exit | apply go_ret | (apply go_mut; (· assumption); · (simp (disch := omega) [go_sem, *, -List.reduceReplicate]; first | exact ⟨rfl, rfl⟩ | (simp [go_sem, *]; exact ⟨rfl, rfl⟩))) | (apply go_mutP; (· assumption); · (simp (disch := omega) [go_sem, *, -List.reduceReplicate]; try first | rfl | exact ⟨rfl, rfl⟩ | exact ⟨rfl, rfl, rfl⟩)) | (apply go_guard_in; (· rfl); · (simp (disch := omega) [go_sem, *, -List.reduceReplicate]; try first | rfl | omega)) | (apply go_guard_off; (· rfl); · (simp (disch := omega) [go_sem, *, -List.reduceReplicate]; try first | rfl | omega)) | (apply go_guard_no; (· rfl); · (simp (disch := omega) [go_sem, *, -List.reduceReplicate]; try rfl)) | ((first | apply go_move | apply go_assign | apply go_load | apply go_store | apply go_append | apply go_copy | apply go_copy0 | apply go_clear0 | apply go_slice3 | apply go_indexA); · (simp (disch := omega) [go_sem, *, -List.reduceReplicate]; try first | rfl | exact ⟨rfl, rfl⟩ | exact ⟨rfl, rfl, rfl⟩)) | ((first | apply go_loadv | apply go_append0 | apply go_beyond); · (simp (disch := omega) [go_sem, *, -List.reduceReplicate]; try first | rfl | exact ⟨rfl, rfl⟩ | exact ⟨rfl, rfl, rfl⟩)) | (apply go_appself; · (simp (disch := omega) [go_sem, *, -List.reduceReplicate]; try first | rfl | exact ⟨rfl, rfl⟩ | exact ⟨rfl, rfl, rfl⟩)) | ((first | (apply go_appendz; · rfl) | (apply go_new; · rfl) | (apply go_pure; · rfl)); · (simp (disch := omega) [go_sem, *, -List.reduceReplicate]; try first | rfl | exact ⟨rfl, rfl⟩ | exact ⟨rfl, rfl, rfl⟩)) | ((apply go_glob; · assumption); · (simp (disch := omega) [go_sem, *, -List.reduceReplicate]; try first | rfl | exact ⟨rfl, rfl⟩ | exact ⟨rfl, rfl, rfl⟩)) | (apply go_read1; (· rfl); · (simp (disch := omega) [go_sem, *, -List.reduceReplicate]; try first | rfl | exact ⟨rfl, rfl⟩ | exact ⟨rfl, rfl, rfl⟩)) | (apply go_rw1; (· rfl); · (simp (disch := omega) [go_sem, *, -List.reduceReplicate]; try first | rfl | exact ⟨rfl, rfl⟩ | exact ⟨rfl, rfl, rfl⟩)) | (apply go_new1; (· rfl); · (simp (disch := omega) [go_sem, *, -List.reduceReplicate]; try first | rfl | exact ⟨rfl, rfl⟩ | exact ⟨rfl, rfl, rfl⟩)) | (apply go_conv; · (simp (disch := omega) [go_sem, *, -List.reduceReplicate]; try first | rfl | exact ⟨rfl, rfl⟩ | exact ⟨rfl, rfl, rfl⟩)) | ((first | (apply go_new; · rfl) | (apply go_pure; · rfl)); · (simp (disch := omega) [go_sem, *, -List.reduceReplicate]; simp [go_sem, *]; try first | rfl | exact ⟨rfl, rfl⟩)) | (apply go_condT; · (simp (disch := omega) [go_sem, *, -List.reduceReplicate]; try first | rfl | omega; done)) | (apply go_condF; · (simp (disch := omega) [go_sem, *, -List.reduceReplicate]; try first | rfl | omega; done)) | (obtain ⟨hcall, hcs⟩ := hcs; refine go_callw (hcall _) (by simp (disch := omega) [go_sem, *, -List.reduceReplicate]; try rfl) (by simp (disch := omega) [go_sem, *, -List.reduceReplicate]; repeat' first | exact ALe.nil | exact AV.le_refl _ | exact AV.le_nils | exact AV.le_own _ _ | apply ALe.cons | apply AV.sub_agg) (by simp (disch := omega) [go_sem, *, -List.reduceReplicate]) ?_; clear hcall))
      exact ⟨WS, WG, WN, _, (show 64 - (t + 1) < m_2 by omega), t + 1, L.set t (W.cv (W.cv (W.cv (sg1 x2 + x7) + sg0 x15) + x16)), rfl, WF, WF, WC, WC, WC⟩
end
end Go.Proofs.YtaelnglalpiemaaDoor

/- append(nil, make([]T, n)...): a row that is written later (slices.Grow). -/
namespace Go.Ab
open Go.RowKit
attribute [local irreducible] Go.Ab.tyAV Go.Ab.aw Go.Ab.aops Go.Ab.kReg Go.Ab.aThen Go.Ab.aBlk Go.Ab.acond Go.Ab.aguard Go.Ab.astep Go.Ab.AStepX Go.Ab.aRet

section
variable {P : Program} {o : Oper} {s : Slots} {id : Nat}
theorem holds_append_zerosM {t tn e : TypeId} {size bytes : Nat} {z : AV} {x y : Operand} {k kn : IntKind} {m : Int} (ho : o.op = .call { callee := .builtin .append, args := #[x, y], argTypes := #[t, tn] }) (ht : sliceTy P t = some e) (htn : intTy P tn = some kn) (hs : sizeIs P e size = true) (hb : bytesIs P e bytes = true)
    (hz : ztree P e = some z) (hzs : z.sz = size) (hpos : 0 < size) (hx : aeval s x = .nils) (hy : aeval s y = .lit (.int k m)) (h0 : 0 < m) (hbytes : m.toNat * bytes ≤ 140737488355328) (hmx : m.toNat ≤ 140737488355328) :
    OpHolds P o s id [] (.ms id 0 size 0 m.toNat) [(id, .mrow 0 e size (List.replicate m.toNat z))] := by
  refine ⟨fun p hp => (by cases hp), fun q hq => .inl (by simp at hq; subst hq; rfl), fun W0 g σ n w a hS hr hf hn _ => ?_⟩
  have h1 := hr x (by simp [ho, Op.operands, Call.operands])
  have h2 := hr y (by simp [ho, Op.operands, Call.operands])
  rw [hx] at h1
  rw [hy] at h2
  have hxu : a.eval x = .slice none 0 0 := by
    generalize hv : a.eval x = v at h1
    cases h1; rfl
  have e2 := rep_lit_inv h2
  obtain ⟨m, rfl⟩ := Int.eq_ofNat_of_zero_le (Int.le_of_lt h0)
  simp only [Int.toNat_natCast] at hbytes hmx ⊢
  have hm0 : 0 < m := by omega
  obtain ⟨cs, he⟩ := execOp_builtin (P := P) (a := a) ho w
  obtain ⟨i, hi, hsi⟩ := sizeIs_sound hs
  have hbi : i.bytes = bytes := by unfold bytesIs at hb; rw [hi] at hb; simpa using hb
  obtain ⟨i', zv, hi', hzv, hrz⟩ := ztree_sound hz g
  rw [hi] at hi'; cases hi'
  have hzc : zv.cells.size = size := by rw [hrz.size, hzs]
  have hrun := Go.Lib.run_append_nil_zeros (P := P) w t tn o.type e i zv k kn (sliceTy_sound ht) (intTy_sound htn) hi hzv m hm0 (by omega) (by omega) (by rw [hbi]; omega)
  have hge := grownCap_ge w m 0 e
  have hcm := grownCap_le_maxLen w m 0 e (by unfold maxLen; omega)
  have hall : ∀ v ∈ List.replicate m zv, v.cells.size = size := fun v hv => by rw [List.eq_of_mem_replicate hv]; exact hzc
  have hfl : flat (List.replicate m zv) = (Builtin.zeroCells zv.cells m).toList := by
    rw [← flat_replicate m zv size hzc hpos]
    simp [Builtin.zeroCells, hzc]
  have hzl : (Builtin.zeroCells zv.cells m).toList.length = m * size := by rw [Array.length_toList, size_zeroCells, hzc]
  obtain ⟨g', hle, hS', hrp⟩ := hS.drew.newM (e := e) (size := size) (xs := List.replicate m z) (vs := List.replicate m zv) hf hn (Builtin.zeroCells zv.cells m ++ Builtin.zeroCells zv.cells (grownCap w m 0 e - m)) (grownCap w m 0 e) (by simp) (rep_replicate hrz m) hall (by simp; omega) hcm
    (by simp only [Array.size_append, size_zeroCells, hzc, ← Nat.add_mul]; congr 1; omega)
    (by rw [Array.toList_append, List.length_replicate, ← hzl, List.take_left, hfl]) (noFz_zero _)
  unfold runsTo
  have hexec : (execOp a.eval o).run P w = .ok (.value (.slice (some ⟨w.heap.size, 0, none⟩) m (grownCap w m 0 e))) (w.drew.alloc (.cells (Builtin.zeroCells zv.cells m ++ Builtin.zeroCells zv.cells (grownCap w m 0 e - m)) e)) := by
    rw [he]
    simp [builtin, hxu, e2, hrun]
  rw [hexec]
  simp only [List.length_replicate] at hrp
  exact ⟨g', hle, hS', hrp⟩
/-- The capacity of a nil slice. -/
theorem holds_cap_nils {t e : TypeId} {x : Operand} (ho : o.op = .call { callee := .builtin .cap, args := #[x], argTypes := #[t] }) (ht : sliceTy P t = some e) (hx : aeval s x = .nils) :
    OpHolds P o s id [] (.lit (.int .i64 0)) [] :=
  holds_pure fun g w a hr => by
    have h3 := hr x (by simp [ho, Op.operands, Call.operands])
    rw [hx] at h3
    generalize hv : a.eval x = v at h3
    cases h3 with
    | nils =>
      obtain ⟨cs, he⟩ := execOp_builtin (P := P) (a := a) ho w
      refine ⟨_, ?_, .lit _ rfl⟩
      rw [he]
      simp [builtin, Builtin.cap_, run_underlying (sliceTy_sound ht), hv, goInt]
/-- A field of a struct that is a value. -/
def fieldTy (P : Program) (t : TypeId) (f : Nat) : Option (TypeId × Nat) :=
  match P.underlying t with
  | some (.struct fs) => match fs[f]? with
    | some fl => some (fl.type, fl.offset)
    | none => none
  | _ => none
theorem fieldTy_sound {t e : TypeId} {f k : Nat} (h : fieldTy P t f = some (e, k)) : ∃ fs fl, P.underlying t = some (.struct fs) ∧ fs[f]? = some fl ∧ fl.type = e ∧ fl.offset = k := by
  unfold fieldTy at h
  split at h
  · rename_i fs hfs
    split at h
    · rename_i fl hfl
      cases h
      exact ⟨fs, fl, hfs, hfl, rfl, rfl⟩
    · cases h
  · cases h
theorem holds_field {t e : TypeId} {x : Operand} {f k : Nat} {xs : List AV} {y : AV} (ho : o.op = .field t x f) (hf : fieldTy P t f = some (e, k)) (hx : aeval s x = .agg xs) (hy : xs[f]? = some y) (hk : AV.szl (xs.take f) = k) (hT : tyIs P e y.isAgg y.sz = true) (h1 : y.isAgg = true ∨ y.one = true) : OpHolds P o s id [] y [] :=
  holds_pure fun g w a hr => by
    have h1' := hr x (by simp [ho, Op.operands])
    rw [hx] at h1'
    generalize hv : a.eval x = v at h1'
    obtain ⟨fs, fl, k1, k2, k3, k4⟩ := fieldTy_sound hf
    cases h1' with
    | agg _ vs hvl hvr =>
      have hR : Rep g (.agg xs) (.agg (flat vs).toArray) := .agg xs vs hvl hvr
      obtain ⟨u, hu, hub, huc⟩ := hR.get (path := [f]) (y := y) (by simp [AV.get, hy])
      have ho' : (AV.agg xs).offs [f] = k := by simp [AV.offs, hy, hk]
      rw [ho'] at hub huc
      have hp := run_part (P := P) hu hT h1 (cs := (flat vs).toArray) (off := k) (fun j q hq => by simpa [cells_agg] using huc j q hq) (by simpa [cells_agg] using hub) w
      refine ⟨u, ?_, hu⟩
      simp [execOp, ho, hv, Instr.field, run_underlying k1, k2, k3, k4, asAgg, hp]
end

def evMutZ (P : Program) (id : Nat) (t tn : TypeId) (u v : AV) : Option Step :=
  match sliceInfo P t, intTy P tn, u, v with
  | some (e, size, bytes, z), some _, .nils, .lit (.int _ m) => if 0 < m ∧ m.toNat * bytes ≤ 140737488355328 ∧ m.toNat ≤ 140737488355328 then
      some ⟨[], .ms id 0 size 0 m.toNat, [(id, .mrow 0 e size (List.replicate m.toNat z))]⟩ else none
  | _, _, _, _ => none
theorem evMutZ_sound {P : Program} {o : Oper} {s : Slots} {σ : Nat → Ent} {id : Nat} {st : Step} {t tn : TypeId} {x y : Operand} (ho : o.op = .call { callee := .builtin .append, args := #[x, y], argTypes := #[t, tn] }) (h : evMutZ P id t tn (aeval s x) (aeval s y) = some st) : Gives P o s σ id st := by
  unfold evMutZ at h
  split at h
  · rename_i ht htn hx hy
    split at h
    · rename_i hc
      cases h
      obtain ⟨k1, k2, k3, k4, k5, k6⟩ := sliceInfo_sound ht
      exact .mk0 (holds_append_zerosM ho k1 htn k2 k3 k4 k5 k6 hx hy hc.1 hc.2.1 hc.2.2)
    · cases h
  · cases h
attribute [go_sem] evMutZ
section
variable {P : Program} {ops : Array Oper} {m i n : Nat} {T : Trace} {k : Cfg → Trace → Prop} {ty : TypeId} {pos : String} {after : Array Edge} {r : List Oper} {s : Slots} {σ : Nat → Ent}
theorem go_mutZ {t : Tmp} {x y : Operand} {t' tn : TypeId} {v : AV} {q : Nat × Ent} (he : evMutZ P (m + i) t' tn (aeval s x) (aeval s y) = some ⟨[], v, [q]⟩) (h : aops P ops m r (i + 1) ((i, [], [q]) :: T) k ⟨upd s t v, upd σ q.1 q.2, n⟩) :
    aops P ops m (⟨some t, .call { callee := .builtin .append, args := #[x, y], argTypes := #[t', tn] }, ty, pos, after, none⟩ :: r) i T k ⟨s, σ, n⟩ :=
  go_own (st := ⟨[], v, [q]⟩) (fun o ho => evMutZ_sound (by rw [ho]) he) h
theorem go_capnil {t : Tmp} {x : Operand} {t' e : TypeId} {size bytes : Nat} {z : AV} (ht : sliceInfo P t' = some (e, size, bytes, z)) (hx : aeval s x = .nils) (h : aops P ops m r (i + 1) T k ⟨upd s t (.lit (.int .i64 0)), σ, n⟩) :
    aops P ops m (⟨some t, .call { callee := .builtin .cap, args := #[x], argTypes := #[t'] }, ty, pos, after, none⟩ :: r) i T k ⟨s, σ, n⟩ :=
  go_own (st := ⟨[], .lit (.int .i64 0), []⟩) (fun o ho => .mk0 (holds_cap_nils ho (sliceInfo_sound ht).1 hx)) h
theorem go_fieldA {t : Tmp} {x : Operand} {t' e : TypeId} {f q : Nat} {xs : List AV} {y : AV} (hf : fieldTy P t' f = some (e, q)) (hx : aeval s x = .agg xs) (hy : xs[f]? = some y) (hk : AV.szl (xs.take f) = q) (hT : tyIs P e y.isAgg y.sz = true) (h1 : y.isAgg = true ∨ y.one = true) (h : aops P ops m r (i + 1) T k ⟨upd s t y, σ, n⟩) :
    aops P ops m (⟨some t, .field t' x f, ty, pos, after, none⟩ :: r) i T k ⟨s, σ, n⟩ :=
  go_own (st := ⟨[], y, []⟩) (fun o ho => .mk0 (holds_field ho hf hx hy hk hT h1)) h
end
end Go.Ab

/- Shared: comparing bytes, arguments cut at a length. -/
namespace Go.Proofs.YtaelnglalpiemaaDoor
open Go.Ab
attribute [local irreducible] Go.Ab.tyAV Go.Ab.aw Go.Ab.aops Go.Ab.kReg Go.Ab.aThen Go.Ab.aBlk Go.Ab.acond Go.Ab.aguard Go.Ab.astep Go.Ab.AStepX Go.Ab.aRet

theorem Same_spec (cs bs : List UInt8) (ha : cs.length ≤ 100000000) (k : Nat) : ACall Tryd.prog 25 [.slice none (cs.map byteAV), .slice none (bs.map byteAV)] k [] (.lit (.bool (decide (cs = bs)))) [] := by
  by_cases hl : cs.length = bs.length
  · refine ACall.of_body mixed Tryd.func25 rfl (by kernel_rfl) Tryd.ntmps25 (by kernel_rfl) rfl (by simp) (by simp) (by simp) fun σ N hp hpn hk hkn hfree => ?_
    refine Wk ?_
    refine go_loop (aloop mixed (by kernel_rfl) (fun c => ∃ (u : Nat), c.s 0 = .slice none (cs.map byteAV) ∧ c.s 1 = .slice none (bs.map byteAV) ∧ c.s 5 = .lit (.int .i64 u) ∧ (∀ id, id < N → c.σ id = σ id) ∧ N ≤ c.n ∧ u ≤ cs.length ∧ cs.take u = bs.take u)
      (fun c => match c.s 5 with | .lit (.int _ m) => cs.length - m.toNat | _ => 0) ⟨0, by simp (disch := omega) [go_sem, *, -List.reduceReplicate], by simp (disch := omega) [go_sem, *, -List.reduceReplicate], by simp (disch := omega) [go_sem, *, -List.reduceReplicate], (fun id hid => by simp (disch := omega) only [upd_ne, wr_cons, wr_nil]; try exact hlow id hid), by simp only; omega, by omega, by simp⟩ ?_)
    rintro ⟨s, σ', n'⟩ ⟨u, h0, h1, h5, hlow, hn', hu, heq⟩
    simp only at h0 h1 h5 hlow hn'
    by_cases hul : u = cs.length
    · have hr : decide (cs = bs) = true := by
        rw [hul, List.take_length, hl, List.take_length] at heq
        simp [heq]
      rw [hr]
      exact W0
    · have hua : u < cs.length := by omega
      have hub : u < bs.length := by omega
      obtain ⟨x, hx⟩ : ∃ x, cs[u] = x := ⟨_, rfl⟩
      obtain ⟨y, hy⟩ : ∃ y, bs[u] = y := ⟨_, rfl⟩
      have hxx : byteAV x = .lit (.int .u8 x.toNat) := rfl
      have hyy : byteAV y = .lit (.int .u8 y.toNat) := rfl
      refine Wk ?_
      by_cases hxy : x = y
      · subst hxy
        refine Wk ?_
        refine ⟨⟨u + 1, by simp (disch := omega) [go_sem, *, -List.reduceReplicate], by simp (disch := omega) [go_sem, *, -List.reduceReplicate], by simp (disch := omega) [go_sem, *, -List.reduceReplicate], (fun id hid => by simp (disch := omega) only [upd_ne, wr_cons, wr_nil]; try exact hlow id hid), by simp only; omega, by omega, ?_⟩, ?_⟩
        · rw [List.take_add_one, List.take_add_one, heq, List.getElem?_eq_getElem hua, List.getElem?_eq_getElem hub, hx, hy]
        · simp (disch := omega) [go_sem, *, -List.reduceReplicate]
          omega
      · have hne : ¬ x.toNat = y.toNat := fun h => hxy (UInt8.toNat_inj.1 h)
        have hr : decide (cs = bs) = false := by
          have : cs ≠ bs := fun h => by subst h; rw [hx] at hy; exact hxy hy
          simp [this]
        rw [hr]
        exact W0
  · have hr : decide (cs = bs) = false := by
      have : cs ≠ bs := fun h => hl (by rw [h])
      simp [this]
    rw [hr]
    refine ACall.of_body mixed Tryd.func25 rfl (by kernel_rfl) Tryd.ntmps25 (by kernel_rfl) rfl (by simp) (by simp) (by simp) fun σ N hp hpn hk hkn hfree => ?_
    exact W0

theorem cutAt (c : Nat) (b : List UInt8) : ∃ (m : Nat) (t : List UInt8), (if (c : Int) < (b.length : Int) then (c : Int) else (b.length : Int)) = (m : Int) ∧ m ≤ b.length ∧ m ≤ c ∧ t.length = m ∧ (b.map byteAV).take m = t.map byteAV := by
  refine ⟨min c b.length, b.take c, ?_, Nat.min_le_right .., Nat.min_le_left .., by simp, ?_⟩
  · split <;> omega
  · rw [← List.map_take]
    congr 1
    by_cases h : c ≤ b.length
    · rw [Nat.min_eq_left h]
    · rw [Nat.min_eq_right (by omega), List.take_length, List.take_of_length_le (by omega)]

theorem cutStr (n : Nat) (b : List UInt8) : ∃ (m : Nat) (t : List UInt8), (if (n : Int) < (b.length : Int) then (n : Int) else (b.length : Int)) = (m : Int) ∧ m ≤ b.length ∧ m ≤ n ∧ t.length = m ∧ b.take m = t := by
  refine ⟨min n b.length, b.take (min n b.length), ?_, by omega, by omega, by simp, rfl⟩
  split <;> omega

theorem str_of {x : AV} (h : tyAV Tryd.prog 8 9 x) : ∃ l : List UInt8, l.length ≤ 9223372036854775807 ∧ x = strAV l := ty_str st9 h
end Go.Proofs.YtaelnglalpiemaaDoor

/- Shared: slices.Clone of bytes, the bytes of a number, varint.Append. -/
namespace Go.Proofs.YtaelnglalpiemaaDoor
open Go.Ab
attribute [local irreducible] Go.Ab.tyAV Go.Ab.aw Go.Ab.aops Go.Ab.kReg Go.Ab.aThen Go.Ab.aBlk Go.Ab.acond Go.Ab.aguard Go.Ab.astep Go.Ab.AStepX Go.Ab.aRet

attribute [go_sem] bytes_all1 bytes_all2 List.isEmpty_map

theorem SClone_cons (bs : List UInt8) (he : bs.isEmpty = false) (hl : bs.length ≤ 100000000) (k : Nat) :
    ACall Tryd.prog 97 [.slice none (bs.map byteAV)] k [] (.slice (some k) (bs.map byteAV)) [(k, .row 5 1 bs.length)] := by
  refine ACall.of_body mixed Tryd.func97 rfl (by kernel_rfl) Tryd.ntmps97 (by kernel_rfl) rfl (by simp) (by simp) (by simp) fun σ N hp hpn hk hkn hfree => ?_
  refine Wk ?_
  refine go_result1 (r0 := N+3) (by simp (disch := omega) [go_sem, *, -List.reduceReplicate]; rfl) (by omega) (by simp (disch := omega) [go_sem]; try rfl) (fun id hid => by simp (disch := omega) only [upd_ne, wr_cons, wr_nil]; try exact hlow id hid) (by simp (disch := omega) only [upd_same, upd_ne]; rfl) (by simp (disch := omega) [go_sem])

theorem SClone_nil (c k : Nat) : ACall Tryd.prog 97 [.lit (.slice none 0 c)] k [] .nils [] := by
  refine ACall.of_body mixed Tryd.func97 rfl (by kernel_rfl) Tryd.ntmps97 (by kernel_rfl) rfl (by simp) (by simp) (by simp) fun σ N hp hpn hk hkn hfree => ?_
  exact W0

theorem SClone_empty (A : Addr) (c k : Nat) : ACall Tryd.prog 97 [.lit (.slice (some A) 0 c)] k [] (.slice (some k) []) [(k, .row 5 1 0)] := by
  refine ACall.of_body mixed Tryd.func97 rfl (by kernel_rfl) Tryd.ntmps97 (by kernel_rfl) rfl (by simp) (by simp) (by simp) fun σ N hp hpn hk hkn hfree => ?_
  refine Wk ?_
  refine go_result1 (r0 := N+3) (by simp (disch := omega) [go_sem, *, -List.reduceReplicate]; rfl) (by omega) (by simp (disch := omega) [go_sem]; try rfl) (fun id hid => by simp (disch := omega) only [upd_ne, wr_cons, wr_nil]; try exact hlow id hid) (by simp (disch := omega) only [upd_same, upd_ne]; rfl) (by simp (disch := omega) [go_sem])

theorem SClone_spec (bs : List UInt8) (hl : bs.length ≤ 100000000) (k : Nat) :
    ACall Tryd.prog 97 [.slice none (bs.map byteAV)] k [] (.slice (some k) (bs.map byteAV)) [(k, .row 5 1 bs.length)] := by
  cases bs with
  | cons b r => exact SClone_cons (b :: r) rfl hl k
  | nil =>
    refine ACall.empty fun A c => ?_
    cases A with
    | none => exact ACall.nilrow (SClone_nil c k)
    | some A => exact SClone_empty A c k

/-- The byte of a number. -/
def u8 (n : Nat) : UInt8 := UInt8.ofNat n
def leb (n : Nat) : List UInt8 := if h : n < 128 then [u8 n] else u8 (n % 128 + 128) :: leb (n / 128)
termination_by n

theorem leb_small {n : Nat} (h : n < 128) : leb n = [u8 n] := by rw [leb, dif_pos h]
theorem leb_big {n : Nat} (h : ¬ n < 128) : leb n = u8 (n % 128 + 128) :: leb (n / 128) := by rw [leb, dif_neg h]
theorem leb_len (n : Nat) : ∀ k, n < 128 ^ k → (leb n).length ≤ k + 1 := by
  induction n using Nat.strongRecOn with
  | _ n ih =>
    intro k hk
    by_cases h : n < 128
    · rw [leb_small h]; simp
    · rw [leb_big h]
      cases k with
      | zero => simp at hk; omega
      | succ k =>
        have := ih (n / 128) (by omega) k (by rw [Nat.pow_succ] at hk; omega)
        simp; omega
theorem byteAV_ofNat {n : Nat} (h : n < 256) : byteAV (u8 n) = .lit (.int .u8 n) := by
  simp only [byteAV, u8]
  rw [UInt8.toNat_ofNat', Nat.mod_eq_of_lt h]

theorem Number_spec (n k : Nat) (hn : n < 128 ^ 9) : ACall Tryd.prog 72 [.lit (.int .i64 n)] k [] (.slice (some k) ((leb n).map byteAV)) [(k, .row 5 1 (leb n).length)] := by
  have hl := leb_len n 9 hn
  refine ACall.of_body mixed Tryd.func72 rfl (by kernel_rfl) Tryd.ntmps72 (by kernel_rfl) rfl (by simp) (by simp) (by simp) fun σ N hp hpn hk hkn hfree => ?_
  refine Wk ?_
  refine go_loop (ALoop.nilrow 3 5 1 (by simp (disch := omega) [go_sem, *, -List.reduceReplicate]) ?_)
  refine aloop mixed (by kernel_rfl) (fun c => ∃ (m : Nat) (acc : List UInt8), c.s 0 = .lit (.int .i64 m) ∧ c.s 3 = .slice (some (N + 2)) (acc.map byteAV) ∧ c.σ (N + 2) = .row 5 1 acc.length ∧ N + 3 ≤ c.n ∧ (∀ id, id < N → c.σ id = σ id) ∧ acc ++ leb m = leb n ∧ m < 128 ^ 9)
    (fun c => match c.s 0 with | .lit (.int _ m) => m.toNat | _ => 0) ⟨n, [], by simp (disch := omega) [go_sem, *, -List.reduceReplicate], by simp (disch := omega) [go_sem, *, -List.reduceReplicate], by simp (disch := omega) [go_sem, *, -List.reduceReplicate], by simp, by intro id hid; simp (disch := omega) only [upd_ne], rfl, hn⟩ ?_
  rintro ⟨s, σ', n'⟩ ⟨m, acc, h0, h3, hr, hn', hlow, hacc, hm⟩
  simp only at h0 h3 hr hn' hlow
  have hal : acc.length ≤ 10 := by rw [← hacc, List.length_append] at hl; omega
  refine Wk ?_
  by_cases h : m < 128
  · refine go_condF (by simp (disch := omega) [go_sem, *, -List.reduceReplicate]; try first | rfl | omega) ?_
    refine Wk ?_
    have hfin : (leb n).map byteAV = acc.map byteAV ++ [.lit (.int .u8 (IntKind.u8.wrap (m : Int)))] := by
      rw [← hacc, leb_small h, List.map_append, List.map_cons, List.map_nil, byteAV_ofNat (by omega), IntKind.wrap_u8, Int.emod_eq_of_lt (by omega) (by omega)]
    have hlen : (leb n).length = acc.length + 1 := by rw [← hacc, leb_small h]; simp
    rw [hfin, hlen]
    refine go_result1 (r0 := N+2) (by simp (disch := omega) [go_sem, *, -List.reduceReplicate]; rfl) (by omega) (by simp (disch := omega) [go_sem]; try rfl) (fun id hid => by simp (disch := omega) only [upd_ne, wr_cons, wr_nil]; try exact hlow id hid) (by simp (disch := omega) only [upd_same, upd_ne]; rfl) (by simp (disch := omega) [go_sem])
  · have ht : (m : Int).tmod 128 = (m : Int) % 128 := Int.tmod_eq_emod_of_nonneg (by omega)
    have hb : IntKind.u8.wrap ((m : Int) % 128 + 128) = (m : Int) % 128 + 128 := by rw [IntKind.wrap_u8]; omega
    have hbv : byteAV (u8 (m % 128 + 128)) = .lit (.int .u8 ((m : Int) % 128 + 128)) := by rw [byteAV_ofNat (by omega)]; simp
    refine Wk ?_
    refine ⟨⟨m / 128, acc ++ [u8 (m % 128 + 128)], by simp (disch := omega) [go_sem, *, -List.reduceReplicate], by simp (disch := omega) [go_sem, *, -List.reduceReplicate], by simp (disch := omega) [go_sem, *, -List.reduceReplicate], by simp only; omega, (fun id hid => by simp (disch := omega) only [upd_ne, wr_cons, wr_nil]; try exact hlow id hid), by rw [← hacc, leb_big h]; simp, by omega⟩, ?_⟩
    simp (disch := omega) [go_sem, *, -List.reduceReplicate]
    omega

theorem Append_bad (bs : List UInt8) (n : Int) (h : n < 0 ∨ 281474976710656 < n) (k : Nat) : ACall Tryd.prog 69 [.slice none (bs.map byteAV), .lit (.int .i64 n)] k [] (.tup [.nils, .lit (.int .i64 1)]) [] := by
  by_cases h1 : n < 0
  · refine ACall.of_body mixed Tryd.func69 rfl (by kernel_rfl) Tryd.ntmps69 (by kernel_rfl) rfl (by simp) (by simp) (by simp) fun σ N hp hpn hk hkn hfree => ?_
    exact W0
  · have h2 : 281474976710656 < n := by omega
    refine ACall.of_body mixed Tryd.func69 rfl (by kernel_rfl) Tryd.ntmps69 (by kernel_rfl) rfl (by simp) (by simp) (by simp) fun σ N hp hpn hk hkn hfree => ?_
    exact W0

theorem Append_ok (bs : List UInt8) (hb : bs.length ≤ 10000000) (n : Nat) (h : n ≤ 281474976710656) (k : Nat) :
    ACall Tryd.prog 69 [.slice none (bs.map byteAV), .lit (.int .i64 n)] k [] (.tup [.slice (some k) ((bs ++ leb n).map byteAV), .lit (.int .i64 0)]) [(k, .row 5 1 (bs.length + (leb n).length))] := by
  have hl := leb_len n 7 (by omega)
  have hc := SClone_spec bs (by omega)
  refine ACall.of_body mixed Tryd.func69 rfl (by kernel_rfl) Tryd.ntmps69 (by kernel_rfl) rfl (by simp) (by simp) (by simp) fun σ N hp hpn hk hkn hfree => ?_
  have g1 : ¬ (n : Int) < 0 := by omega
  have g2 : ¬ (281474976710656 : Int) < n := by omega
  have hcs := And.intro hc True.intro
  refine Wk ?_
  refine go_loop (aloop mixed (by kernel_rfl) (fun c => ∃ (m : Nat) (acc : List UInt8), c.s 1 = .lit (.int .i64 m) ∧ c.s 6 = .slice (some (N + 9)) ((bs ++ acc).map byteAV) ∧ c.σ (N + 9) = .row 5 1 (bs.length + acc.length) ∧ N + 10 ≤ c.n ∧ (∀ id, id < N → c.σ id = σ id) ∧ acc ++ leb m = leb n ∧ m ≤ 281474976710656)
    (fun c => match c.s 1 with | .lit (.int _ m) => m.toNat | _ => 0) ⟨n, [], by simp (disch := omega) [go_sem, *, -List.reduceReplicate], by simp (disch := omega) [go_sem, *, -List.reduceReplicate], by simp (disch := omega) [go_sem, *, -List.reduceReplicate], by simp, (fun id hid => by simp (disch := omega) only [upd_ne, wr_cons, wr_nil]; try exact hlow id hid), rfl, h⟩ ?_)
  rintro ⟨s, σ', n'⟩ ⟨m, acc, h0, h3, hr, hn', hlow, hacc, hm⟩
  simp only at h0 h3 hr hn' hlow
  have hal : acc.length ≤ 10 := by rw [← hacc, List.length_append] at hl; omega
  by_cases h : m < 128
  · repeat (first | apply go_nil | apply go_kreg | apply go_kreg0 | apply go_kreg1 | (apply go_kregT; · (first | (simp [addT, CF, CFy, Ind, DisjF]; done) | (simp only [addT, CF, CFy, Ind]; repeat' (first | exact trivial | apply And.intro | exact Or.inl (by decide +kernel) | (refine Or.inr ⟨?_, ?_⟩ <;> (simp; try omega)))))) | apply go_then | apply go_then_exit | apply go_then_ret | apply go_blk | apply go_blk_ret | apply go_blk_here | (apply go_blk_there; · rfl) | apply go_seq | (apply go_region; · (simp only [List.length_cons, List.length_nil, Nat.reduceAdd, Nat.add_assoc]; rfl)) | apply go_skip | apply go_block | apply go_scope | apply go_label | apply go_exit | apply go_ret | (apply go_mut; (· assumption); · (simp (disch := omega) [go_sem, *, -List.reduceReplicate]; first | exact ⟨rfl, rfl⟩ | (simp [go_sem, *]; exact ⟨rfl, rfl⟩))) | (apply go_mutP; (· assumption); · (simp (disch := omega) [go_sem, *, -List.reduceReplicate]; try first | rfl | exact ⟨rfl, rfl⟩ | exact ⟨rfl, rfl, rfl⟩)) | (apply go_guard_in; (· rfl); · (simp (disch := omega) [go_sem, *, -List.reduceReplicate]; try first | rfl | omega)) | (apply go_guard_off; (· rfl); · (simp (disch := omega) [go_sem, *, -List.reduceReplicate]; try first | rfl | omega)) | (apply go_guard_no; (· rfl); · (simp (disch := omega) [go_sem, *, -List.reduceReplicate]; try rfl)) | ((first | apply go_move | apply go_assign | apply go_load | apply go_store | apply go_append | apply go_copy | apply go_copy0 | apply go_clear0 | apply go_slice3 | apply go_indexA); · (simp (disch := omega) [go_sem, *, -List.reduceReplicate]; try first | rfl | exact ⟨rfl, rfl⟩ | exact ⟨rfl, rfl, rfl⟩)) | ((first | apply go_loadv | apply go_append0 | apply go_beyond); · (simp (disch := omega) [go_sem, *, -List.reduceReplicate]; try first | rfl | exact ⟨rfl, rfl⟩ | exact ⟨rfl, rfl, rfl⟩)) | (apply go_appself; · (simp (disch := omega) [go_sem, *, -List.reduceReplicate]; try first | rfl | exact ⟨rfl, rfl⟩ | exact ⟨rfl, rfl, rfl⟩)) | ((first | (apply go_appendz; · rfl) | (apply go_new; · rfl) | (apply go_pure; · rfl)); · (simp (disch := omega) [go_sem, *, -List.reduceReplicate]; try first | rfl | exact ⟨rfl, rfl⟩ | exact ⟨rfl, rfl, rfl⟩)) | ((apply go_glob; · assumption); · (simp (disch := omega) [go_sem, *, -List.reduceReplicate]; try first | rfl | exact ⟨rfl, rfl⟩ | exact ⟨rfl, rfl, rfl⟩)) | (apply go_read1; (· rfl); · (simp (disch := omega) [go_sem, *, -List.reduceReplicate]; try first | rfl | exact ⟨rfl, rfl⟩ | exact ⟨rfl, rfl, rfl⟩)) | (apply go_rw1; (· rfl); · (simp (disch := omega) [go_sem, *, -List.reduceReplicate]; try first | rfl | exact ⟨rfl, rfl⟩ | exact ⟨rfl, rfl, rfl⟩)) | (apply go_new1; (· rfl); · (simp (disch := omega) [go_sem, *, -List.reduceReplicate]; try first | rfl | exact ⟨rfl, rfl⟩ | exact ⟨rfl, rfl, rfl⟩)) | (apply go_conv; · (simp (disch := omega) [go_sem, *, -List.reduceReplicate]; try first | rfl | exact ⟨rfl, rfl⟩ | exact ⟨rfl, rfl, rfl⟩)) | ((first | (apply go_new; · rfl) | (apply go_pure; · rfl)); · (simp (disch := omega) [go_sem, *, -List.reduceReplicate]; simp [go_sem, *]; try first | rfl | exact ⟨rfl, rfl⟩)))
    refine Wk ?_
    have hfin : (bs ++ leb n).map byteAV = (bs ++ acc).map byteAV ++ [.lit (.int .u8 (IntKind.u8.wrap (m : Int)))] := by
      rw [← hacc, leb_small h, ← List.append_assoc, List.map_append, List.map_cons, List.map_nil, byteAV_ofNat (by omega), IntKind.wrap_u8, Int.emod_eq_of_lt (by omega) (by omega)]
    have hlen : bs.length + (leb n).length = bs.length + acc.length + 1 := by rw [← hacc, leb_small h]; simp; omega
    rw [hfin, hlen]
    refine go_result1 (r0 := N+9) (by simp (disch := omega) [go_sem, *, -List.reduceReplicate]; rfl) (by omega) (by simp (disch := omega) [go_sem]; try rfl) (fun id hid => by simp (disch := omega) only [upd_ne, wr_cons, wr_nil]; try exact hlow id hid) (by simp (disch := omega) only [upd_same, upd_ne]; rfl) (by simp (disch := omega) [go_sem])
  · have ha : bits .and .i64 (m : Int) 127 = (m : Int) % 128 := i64_and127 _ (by omega) (by omega)
    have ho : bits .or .i64 ((m : Int) % 128) 128 = (m : Int) % 128 + 128 := i64_or128 _ (by omega) (by omega)
    have hs : (m : Int).fdiv 128 = (m : Int) / 128 := by rw [Int.fdiv_eq_ediv]; simp
    have hb : IntKind.u8.wrap ((m : Int) % 128 + 128) = (m : Int) % 128 + 128 := by rw [IntKind.wrap_u8]; omega
    have hbv : byteAV (u8 (m % 128 + 128)) = .lit (.int .u8 ((m : Int) % 128 + 128)) := by rw [byteAV_ofNat (by omega)]; simp
    refine Wk ?_
    refine ⟨⟨m / 128, acc ++ [u8 (m % 128 + 128)], by simp (disch := omega) [go_sem, *, -List.reduceReplicate], by simp (disch := omega) [go_sem, *, -List.reduceReplicate], by simp (disch := omega) [go_sem, *, -List.reduceReplicate]; omega, by simp only; omega, (fun id hid => by simp (disch := omega) only [upd_ne, wr_cons, wr_nil]; try exact hlow id hid), by rw [← hacc, leb_big h]; simp, by omega⟩, ?_⟩
    simp (disch := omega) [go_sem, *, -List.reduceReplicate]
    omega

theorem Number_spec_f (n k : Nat) (hn : n < 128 ^ 9) : ACall Tryd.prog 72 [.lit (.int .i64 n)] k [] (.slice none ((leb n).map byteAV)) [] := by
  have hl := leb_len n 9 hn
  refine ACall.of_body mixed Tryd.func72 rfl (by kernel_rfl) Tryd.ntmps72 (by kernel_rfl) rfl (by simp) (by simp) (by simp) fun σ N hp hpn hk hkn hfree => ?_
  refine Wk ?_
  refine go_loop (ALoop.nilrow 3 5 1 (by simp (disch := omega) [go_sem, *, -List.reduceReplicate]) ?_)
  refine aloop mixed (by kernel_rfl) (fun c => ∃ (m : Nat) (acc : List UInt8), c.s 0 = .lit (.int .i64 m) ∧ c.s 3 = .slice (some (N + 2)) (acc.map byteAV) ∧ c.σ (N + 2) = .row 5 1 acc.length ∧ N + 3 ≤ c.n ∧ (∀ id, id < N → c.σ id = σ id) ∧ acc ++ leb m = leb n ∧ m < 128 ^ 9)
    (fun c => match c.s 0 with | .lit (.int _ m) => m.toNat | _ => 0) ⟨n, [], by simp (disch := omega) [go_sem, *, -List.reduceReplicate], by simp (disch := omega) [go_sem, *, -List.reduceReplicate], by simp (disch := omega) [go_sem, *, -List.reduceReplicate], by simp, by intro id hid; simp (disch := omega) only [upd_ne], rfl, hn⟩ ?_
  rintro ⟨s, σ', n'⟩ ⟨m, acc, h0, h3, hr, hn', hlow, hacc, hm⟩
  simp only at h0 h3 hr hn' hlow
  have hal : acc.length ≤ 10 := by rw [← hacc, List.length_append] at hl; omega
  refine Wk ?_
  by_cases h : m < 128
  · refine go_condF (by simp (disch := omega) [go_sem, *, -List.reduceReplicate]; try first | rfl | omega) ?_
    refine Wk ?_
    have hfin : (leb n).map byteAV = acc.map byteAV ++ [.lit (.int .u8 (IntKind.u8.wrap (m : Int)))] := by
      rw [← hacc, leb_small h, List.map_append, List.map_cons, List.map_nil, byteAV_ofNat (by omega), IntKind.wrap_u8, Int.emod_eq_of_lt (by omega) (by omega)]
    have hlen : (leb n).length = acc.length + 1 := by rw [← hacc, leb_small h]; simp
    rw [hfin]
    refine go_resultI (by simp (disch := omega) [go_sem, *, -List.reduceReplicate]; rfl) (by first | exact AV.le_refl _ | ((first | apply AV.le_slices | apply AV.le_nilsE | apply AV.le_clipE); first | rfl | (simp (disch := omega) [go_sem, *, -List.reduceReplicate]; done))) (by simp (disch := omega) [go_sem]; try rfl) (fun id hid => by simp (disch := omega) only [upd_ne, wr_cons, wr_nil]; try exact hlow id hid)
  · have ht : (m : Int).tmod 128 = (m : Int) % 128 := Int.tmod_eq_emod_of_nonneg (by omega)
    have hb : IntKind.u8.wrap ((m : Int) % 128 + 128) = (m : Int) % 128 + 128 := by rw [IntKind.wrap_u8]; omega
    have hbv : byteAV (u8 (m % 128 + 128)) = .lit (.int .u8 ((m : Int) % 128 + 128)) := by rw [byteAV_ofNat (by omega)]; simp
    refine Wk ?_
    refine ⟨⟨m / 128, acc ++ [u8 (m % 128 + 128)], by simp (disch := omega) [go_sem, *, -List.reduceReplicate], by simp (disch := omega) [go_sem, *, -List.reduceReplicate], by simp (disch := omega) [go_sem, *, -List.reduceReplicate], by simp only; omega, (fun id hid => by simp (disch := omega) only [upd_ne, wr_cons, wr_nil]; try exact hlow id hid), by rw [← hacc, leb_big h]; simp, by omega⟩, ?_⟩
    simp (disch := omega) [go_sem, *, -List.reduceReplicate]
    omega

theorem Append_ok_f (bs : List UInt8) (hb : bs.length ≤ 10000000) (n : Nat) (h : n ≤ 281474976710656) (k : Nat) :
    ACall Tryd.prog 69 [.slice none (bs.map byteAV), .lit (.int .i64 n)] k [] (.tup [.slice none ((bs ++ leb n).map byteAV), .lit (.int .i64 0)]) [] := by
  have hl := leb_len n 7 (by omega)
  have hc := SClone_spec bs (by omega)
  refine ACall.of_body mixed Tryd.func69 rfl (by kernel_rfl) Tryd.ntmps69 (by kernel_rfl) rfl (by simp) (by simp) (by simp) fun σ N hp hpn hk hkn hfree => ?_
  have g1 : ¬ (n : Int) < 0 := by omega
  have g2 : ¬ (281474976710656 : Int) < n := by omega
  have hcs := And.intro hc True.intro
  refine Wk ?_
  refine go_loop (aloop mixed (by kernel_rfl) (fun c => ∃ (m : Nat) (acc : List UInt8), c.s 1 = .lit (.int .i64 m) ∧ c.s 6 = .slice (some (N + 9)) ((bs ++ acc).map byteAV) ∧ c.σ (N + 9) = .row 5 1 (bs.length + acc.length) ∧ N + 10 ≤ c.n ∧ (∀ id, id < N → c.σ id = σ id) ∧ acc ++ leb m = leb n ∧ m ≤ 281474976710656)
    (fun c => match c.s 1 with | .lit (.int _ m) => m.toNat | _ => 0) ⟨n, [], by simp (disch := omega) [go_sem, *, -List.reduceReplicate], by simp (disch := omega) [go_sem, *, -List.reduceReplicate], by simp (disch := omega) [go_sem, *, -List.reduceReplicate], by simp, (fun id hid => by simp (disch := omega) only [upd_ne, wr_cons, wr_nil]; try exact hlow id hid), rfl, h⟩ ?_)
  rintro ⟨s, σ', n'⟩ ⟨m, acc, h0, h3, hr, hn', hlow, hacc, hm⟩
  simp only at h0 h3 hr hn' hlow
  have hal : acc.length ≤ 10 := by rw [← hacc, List.length_append] at hl; omega
  by_cases h : m < 128
  · repeat (first | apply go_nil | apply go_kreg | apply go_kreg0 | apply go_kreg1 | (apply go_kregT; · (first | (simp [addT, CF, CFy, Ind, DisjF]; done) | (simp only [addT, CF, CFy, Ind]; repeat' (first | exact trivial | apply And.intro | exact Or.inl (by decide +kernel) | (refine Or.inr ⟨?_, ?_⟩ <;> (simp; try omega)))))) | apply go_then | apply go_then_exit | apply go_then_ret | apply go_blk | apply go_blk_ret | apply go_blk_here | (apply go_blk_there; · rfl) | apply go_seq | (apply go_region; · (simp only [List.length_cons, List.length_nil, Nat.reduceAdd, Nat.add_assoc]; rfl)) | apply go_skip | apply go_block | apply go_scope | apply go_label | apply go_exit | apply go_ret | (apply go_mut; (· assumption); · (simp (disch := omega) [go_sem, *, -List.reduceReplicate]; first | exact ⟨rfl, rfl⟩ | (simp [go_sem, *]; exact ⟨rfl, rfl⟩))) | (apply go_mutP; (· assumption); · (simp (disch := omega) [go_sem, *, -List.reduceReplicate]; try first | rfl | exact ⟨rfl, rfl⟩ | exact ⟨rfl, rfl, rfl⟩)) | (apply go_guard_in; (· rfl); · (simp (disch := omega) [go_sem, *, -List.reduceReplicate]; try first | rfl | omega)) | (apply go_guard_off; (· rfl); · (simp (disch := omega) [go_sem, *, -List.reduceReplicate]; try first | rfl | omega)) | (apply go_guard_no; (· rfl); · (simp (disch := omega) [go_sem, *, -List.reduceReplicate]; try rfl)) | ((first | apply go_move | apply go_assign | apply go_load | apply go_store | apply go_append | apply go_copy | apply go_copy0 | apply go_clear0 | apply go_slice3 | apply go_indexA); · (simp (disch := omega) [go_sem, *, -List.reduceReplicate]; try first | rfl | exact ⟨rfl, rfl⟩ | exact ⟨rfl, rfl, rfl⟩)) | ((first | apply go_loadv | apply go_append0 | apply go_beyond); · (simp (disch := omega) [go_sem, *, -List.reduceReplicate]; try first | rfl | exact ⟨rfl, rfl⟩ | exact ⟨rfl, rfl, rfl⟩)) | (apply go_appself; · (simp (disch := omega) [go_sem, *, -List.reduceReplicate]; try first | rfl | exact ⟨rfl, rfl⟩ | exact ⟨rfl, rfl, rfl⟩)) | ((first | (apply go_appendz; · rfl) | (apply go_new; · rfl) | (apply go_pure; · rfl)); · (simp (disch := omega) [go_sem, *, -List.reduceReplicate]; try first | rfl | exact ⟨rfl, rfl⟩ | exact ⟨rfl, rfl, rfl⟩)) | ((apply go_glob; · assumption); · (simp (disch := omega) [go_sem, *, -List.reduceReplicate]; try first | rfl | exact ⟨rfl, rfl⟩ | exact ⟨rfl, rfl, rfl⟩)) | (apply go_read1; (· rfl); · (simp (disch := omega) [go_sem, *, -List.reduceReplicate]; try first | rfl | exact ⟨rfl, rfl⟩ | exact ⟨rfl, rfl, rfl⟩)) | (apply go_rw1; (· rfl); · (simp (disch := omega) [go_sem, *, -List.reduceReplicate]; try first | rfl | exact ⟨rfl, rfl⟩ | exact ⟨rfl, rfl, rfl⟩)) | (apply go_new1; (· rfl); · (simp (disch := omega) [go_sem, *, -List.reduceReplicate]; try first | rfl | exact ⟨rfl, rfl⟩ | exact ⟨rfl, rfl, rfl⟩)) | (apply go_conv; · (simp (disch := omega) [go_sem, *, -List.reduceReplicate]; try first | rfl | exact ⟨rfl, rfl⟩ | exact ⟨rfl, rfl, rfl⟩)) | ((first | (apply go_new; · rfl) | (apply go_pure; · rfl)); · (simp (disch := omega) [go_sem, *, -List.reduceReplicate]; simp [go_sem, *]; try first | rfl | exact ⟨rfl, rfl⟩)))
    refine Wk ?_
    have hfin : (bs ++ leb n).map byteAV = (bs ++ acc).map byteAV ++ [.lit (.int .u8 (IntKind.u8.wrap (m : Int)))] := by
      rw [← hacc, leb_small h, ← List.append_assoc, List.map_append, List.map_cons, List.map_nil, byteAV_ofNat (by omega), IntKind.wrap_u8, Int.emod_eq_of_lt (by omega) (by omega)]
    have hlen : bs.length + (leb n).length = bs.length + acc.length + 1 := by rw [← hacc, leb_small h]; simp; omega
    rw [hfin]
    refine go_resultI (by simp (disch := omega) [go_sem, *, -List.reduceReplicate]; rfl) (AV.sub_tup (by repeat' first | exact ALe.nil | exact AV.le_refl _ | apply ALe.cons | ((first | apply AV.le_slices | apply AV.le_nilsE | apply AV.le_clipE); first | rfl | (simp (disch := omega) [go_sem, *, -List.reduceReplicate]; done)))) (by simp (disch := omega) [go_sem]; try rfl) (fun id hid => by simp (disch := omega) only [upd_ne, wr_cons, wr_nil]; try exact hlow id hid)
  · have ha : bits .and .i64 (m : Int) 127 = (m : Int) % 128 := i64_and127 _ (by omega) (by omega)
    have ho : bits .or .i64 ((m : Int) % 128) 128 = (m : Int) % 128 + 128 := i64_or128 _ (by omega) (by omega)
    have hs : (m : Int).fdiv 128 = (m : Int) / 128 := by rw [Int.fdiv_eq_ediv]; simp
    have hb : IntKind.u8.wrap ((m : Int) % 128 + 128) = (m : Int) % 128 + 128 := by rw [IntKind.wrap_u8]; omega
    have hbv : byteAV (u8 (m % 128 + 128)) = .lit (.int .u8 ((m : Int) % 128 + 128)) := by rw [byteAV_ofNat (by omega)]; simp
    refine Wk ?_
    refine ⟨⟨m / 128, acc ++ [u8 (m % 128 + 128)], by simp (disch := omega) [go_sem, *, -List.reduceReplicate], by simp (disch := omega) [go_sem, *, -List.reduceReplicate], by simp (disch := omega) [go_sem, *, -List.reduceReplicate]; omega, by simp only; omega, (fun id hid => by simp (disch := omega) only [upd_ne, wr_cons, wr_nil]; try exact hlow id hid), by rw [← hacc, leb_big h]; simp, by omega⟩, ?_⟩
    simp (disch := omega) [go_sem, *, -List.reduceReplicate]
    omega
end Go.Proofs.YtaelnglalpiemaaDoor

/- SHA-256: slices.Concat of two byte strings. -/
namespace Go.Proofs.YtaelnglalpiemaaDoor
open Go.Ab
attribute [local irreducible] Go.Ab.tyAV Go.Ab.aw Go.Ab.aops Go.Ab.kReg Go.Ab.aThen Go.Ab.aBlk Go.Ab.acond Go.Ab.aguard Go.Ab.astep Go.Ab.AStepX Go.Ab.aRet

@[go_sem] theorem renl_rep0 (f : Nat → Option Nat) (n : Nat) (v : Value) : AV.renl f (List.replicate n (.lit v)) = List.replicate n (.lit v) := by
  rw [AV.renl_map, List.map_replicate]; rfl
theorem Grow_spec (n : Nat) (h0 : 0 < n) (hn : n ≤ 100000000) (k : Nat) :
    ACall Tryd.prog 113 [.nils, .lit (.int .i64 n)] k [] (.ms k 0 1 0 0) [(k, .mrow 0 5 1 (List.replicate n (.lit (.int .u8 0))))] := by
  have h1 : ¬ ((n : Int) < 0) := by omega
  have h2 : (0 : Int) < n := by omega
  refine ACall.of_body mixed Tryd.func113 rfl (by kernel_rfl) Tryd.ntmps113 (by kernel_rfl) rfl (by simp) (by simp) (by simp) fun σ N hp hpn hk hkn hfree => ?_
  refine Wk ?_
  apply go_capnil
  · simp (disch := omega) [go_sem, *, -List.reduceReplicate]
    exact ⟨rfl, rfl, rfl, rfl⟩
  · simp (disch := omega) [go_sem, *, -List.reduceReplicate]
  refine Wk ?_
  apply go_capnil
  · simp (disch := omega) [go_sem, *, -List.reduceReplicate]
    exact ⟨rfl, rfl, rfl, rfl⟩
  · simp (disch := omega) [go_sem, *, -List.reduceReplicate]
  refine Wk ?_
  apply go_mutZ
  · (simp (disch := omega) [go_sem, *, -List.reduceReplicate]; try first | rfl | exact ⟨rfl, rfl⟩ | exact ⟨rfl, rfl, rfl⟩)
  refine Wk ?_
  refine go_result1 (r0 := N+18) (by simp (disch := omega) [go_sem, *, -List.reduceReplicate]; rfl) (by omega) (by simp (disch := omega) [go_sem]; try rfl) (fun id hid => by simp (disch := omega) only [upd_ne, wr_cons, wr_nil]; try exact hlow id hid) (by simp (disch := omega) only [upd_same, upd_ne]; rfl) (by simp (disch := omega) [go_sem])

theorem Concat_spec (a b : List UInt8) (h0 : 0 < a.length + b.length) (hl : a.length + b.length ≤ 100000000) (k : Nat) :
    ACall Tryd.prog 105 [.slice none [.slice none (a.map byteAV), .slice none (b.map byteAV)]] k [] (.slice (some k) ((a ++ b).map byteAV)) [(k, .row 5 1 (a ++ b).length)] := by
  obtain ⟨la, hla⟩ : ∃ x, a.length = x := ⟨_, rfl⟩
  obtain ⟨lb, hlb⟩ : ∃ x, b.length = x := ⟨_, rfl⟩
  rw [hla, hlb] at h0 hl
  have c1 := Grow_spec (la + lb) h0 hl
  have hab : a.map byteAV ++ b.map byteAV = (a ++ b).map byteAV := by rw [List.map_append]
  have hcl : (a ++ b).length = la + lb := by rw [List.length_append, hla, hlb]
  generalize a ++ b = c at *
  refine ACall.of_body mixed Tryd.func105 rfl (by kernel_rfl) Tryd.ntmps105 (by kernel_rfl) rfl (by simp) (by simp) (by simp) fun σ N hp hpn hk hkn hfree => ?_
  refine Wk ?_
  refine go_loopF mixed (by kernel_rfl) [3, 5, 11, 12, 13, 14, 15, 16, 17, 18, 19, 20, 21, 22] [] (fun m_ s_ σ_ n_ => ∃ (i : Nat) (z : Int), m_ = 2 - i ∧ s_ 11 = .lit (.int .i64 i) ∧ s_ 3 = .lit (.int .i64 z) ∧ ((i = 0 ∧ z = 0) ∨ (i = 1 ∧ z = la) ∨ (i = 2 ∧ z = la + lb))) ⟨_, 0, 0, rfl, WF, WF, WC⟩ ?_
  intro m_1 s_1 σ_1 n_1 hs_1 hf_1 hn_1 hI_1
  obtain ⟨i, z, hm_1, h1_11, h1_3, hi⟩ := hI_1
  have h1_0 := (hs_1.at 0 (by decide)).trans WE
  have h1_2 := (hs_1.at 2 (by decide)).trans WE
  have h1_9 := (hs_1.at 9 (by decide)).trans WE
  have h1_10 := (hs_1.at 10 (by decide)).trans WE
  have hlow : ∀ id, id < N → σ_1 id = σ id := fun id hid => (hf_1.at id (by omega) WQ).trans WH
  rcases hi with ⟨rfl, rfl⟩ | ⟨rfl, rfl⟩ | ⟨rfl, rfl⟩
  · have hz : ¬ ((la : Int) < 0) := by omega
    repeat (first | apply go_nil | apply go_kreg | apply go_kreg0 | apply go_kreg1 | (apply go_kregT; · (first | (simp [addT, CF, CFy, Ind, DisjF]; done) | (simp only [addT, CF, CFy, Ind]; repeat' (first | exact trivial | apply And.intro | exact Or.inl (by decide +kernel) | (refine Or.inr ⟨?_, ?_⟩ <;> (simp; try omega)))))) | apply go_then | apply go_then_exit | apply go_then_ret | apply go_blk | apply go_blk_ret | apply go_blk_here | (apply go_blk_there; · rfl) | apply go_seq | (apply go_region; · (simp only [List.length_cons, List.length_nil, Nat.reduceAdd, Nat.add_assoc]; rfl)) | apply go_skip | apply go_block | apply go_scope | apply go_label | apply go_exit | apply go_ret | (apply go_mut; (· assumption); · (simp (disch := omega) [go_sem, *, -List.reduceReplicate]; first | exact ⟨rfl, rfl⟩ | (simp [go_sem, *]; exact ⟨rfl, rfl⟩))) | (apply go_mutP; (· assumption); · (simp (disch := omega) [go_sem, *, -List.reduceReplicate]; try first | rfl | exact ⟨rfl, rfl⟩ | exact ⟨rfl, rfl, rfl⟩)) | (apply go_guard_in; (· rfl); · (simp (disch := omega) [go_sem, *, -List.reduceReplicate]; try first | rfl | omega)) | (apply go_guard_off; (· rfl); · (simp (disch := omega) [go_sem, *, -List.reduceReplicate]; try first | rfl | omega)) | (apply go_guard_no; (· rfl); · (simp (disch := omega) [go_sem, *, -List.reduceReplicate]; try rfl)) | ((first | apply go_move | apply go_assign | apply go_load | apply go_store | apply go_append | apply go_copy | apply go_copy0 | apply go_clear0 | apply go_slice3 | apply go_indexA); · (simp (disch := omega) [go_sem, *, -List.reduceReplicate]; try first | rfl | exact ⟨rfl, rfl⟩ | exact ⟨rfl, rfl, rfl⟩)) | ((first | apply go_loadv | apply go_append0 | apply go_beyond); · (simp (disch := omega) [go_sem, *, -List.reduceReplicate]; try first | rfl | exact ⟨rfl, rfl⟩ | exact ⟨rfl, rfl, rfl⟩)) | (apply go_appself; · (simp (disch := omega) [go_sem, *, -List.reduceReplicate]; try first | rfl | exact ⟨rfl, rfl⟩ | exact ⟨rfl, rfl, rfl⟩)) | ((first | (apply go_appendz; · rfl) | (apply go_new; · rfl) | (apply go_pure; · rfl)); · (simp (disch := omega) [go_sem, *, -List.reduceReplicate]; try first | rfl | exact ⟨rfl, rfl⟩ | exact ⟨rfl, rfl, rfl⟩)) | ((apply go_glob; · assumption); · (simp (disch := omega) [go_sem, *, -List.reduceReplicate]; try first | rfl | exact ⟨rfl, rfl⟩ | exact ⟨rfl, rfl, rfl⟩)) | (apply go_read1; (· rfl); · (simp (disch := omega) [go_sem, *, -List.reduceReplicate]; try first | rfl | exact ⟨rfl, rfl⟩ | exact ⟨rfl, rfl, rfl⟩)) | (apply go_rw1; (· rfl); · (simp (disch := omega) [go_sem, *, -List.reduceReplicate]; try first | rfl | exact ⟨rfl, rfl⟩ | exact ⟨rfl, rfl, rfl⟩)) | (apply go_new1; (· rfl); · (simp (disch := omega) [go_sem, *, -List.reduceReplicate]; try first | rfl | exact ⟨rfl, rfl⟩ | exact ⟨rfl, rfl, rfl⟩)) | (apply go_conv; · (simp (disch := omega) [go_sem, *, -List.reduceReplicate]; try first | rfl | exact ⟨rfl, rfl⟩ | exact ⟨rfl, rfl, rfl⟩)) | ((first | (apply go_new; · rfl) | (apply go_pure; · rfl)); · (simp (disch := omega) [go_sem, *, -List.reduceReplicate]; simp [go_sem, *]; try first | rfl | exact ⟨rfl, rfl⟩)) | (apply go_condT; · (simp (disch := omega) [go_sem, *, -List.reduceReplicate]; try first | rfl | omega; done)) | (apply go_condF; · (simp (disch := omega) [go_sem, *, -List.reduceReplicate]; try first | rfl | omega; done)) | (obtain ⟨hcall, hcs⟩ := hcs; refine go_callw (hcall _) (by simp (disch := omega) [go_sem, *, -List.reduceReplicate]; try rfl) (by simp (disch := omega) [go_sem, *, -List.reduceReplicate]; repeat' first | exact ALe.nil | exact AV.le_refl _ | exact AV.le_nils | exact AV.le_own _ _ | apply ALe.cons | apply AV.sub_agg) (by simp (disch := omega) [go_sem, *, -List.reduceReplicate]) ?_; clear hcall))
    exact ⟨WS, WG, WN, _, (show 2 - (1) < m_1 by omega), 1, la, rfl, WF, WF, WC⟩
  · have hz : ¬ ((la : Int) + lb < 0) := by omega
    repeat (first | apply go_nil | apply go_kreg | apply go_kreg0 | apply go_kreg1 | (apply go_kregT; · (first | (simp [addT, CF, CFy, Ind, DisjF]; done) | (simp only [addT, CF, CFy, Ind]; repeat' (first | exact trivial | apply And.intro | exact Or.inl (by decide +kernel) | (refine Or.inr ⟨?_, ?_⟩ <;> (simp; try omega)))))) | apply go_then | apply go_then_exit | apply go_then_ret | apply go_blk | apply go_blk_ret | apply go_blk_here | (apply go_blk_there; · rfl) | apply go_seq | (apply go_region; · (simp only [List.length_cons, List.length_nil, Nat.reduceAdd, Nat.add_assoc]; rfl)) | apply go_skip | apply go_block | apply go_scope | apply go_label | apply go_exit | apply go_ret | (apply go_mut; (· assumption); · (simp (disch := omega) [go_sem, *, -List.reduceReplicate]; first | exact ⟨rfl, rfl⟩ | (simp [go_sem, *]; exact ⟨rfl, rfl⟩))) | (apply go_mutP; (· assumption); · (simp (disch := omega) [go_sem, *, -List.reduceReplicate]; try first | rfl | exact ⟨rfl, rfl⟩ | exact ⟨rfl, rfl, rfl⟩)) | (apply go_guard_in; (· rfl); · (simp (disch := omega) [go_sem, *, -List.reduceReplicate]; try first | rfl | omega)) | (apply go_guard_off; (· rfl); · (simp (disch := omega) [go_sem, *, -List.reduceReplicate]; try first | rfl | omega)) | (apply go_guard_no; (· rfl); · (simp (disch := omega) [go_sem, *, -List.reduceReplicate]; try rfl)) | ((first | apply go_move | apply go_assign | apply go_load | apply go_store | apply go_append | apply go_copy | apply go_copy0 | apply go_clear0 | apply go_slice3 | apply go_indexA); · (simp (disch := omega) [go_sem, *, -List.reduceReplicate]; try first | rfl | exact ⟨rfl, rfl⟩ | exact ⟨rfl, rfl, rfl⟩)) | ((first | apply go_loadv | apply go_append0 | apply go_beyond); · (simp (disch := omega) [go_sem, *, -List.reduceReplicate]; try first | rfl | exact ⟨rfl, rfl⟩ | exact ⟨rfl, rfl, rfl⟩)) | (apply go_appself; · (simp (disch := omega) [go_sem, *, -List.reduceReplicate]; try first | rfl | exact ⟨rfl, rfl⟩ | exact ⟨rfl, rfl, rfl⟩)) | ((first | (apply go_appendz; · rfl) | (apply go_new; · rfl) | (apply go_pure; · rfl)); · (simp (disch := omega) [go_sem, *, -List.reduceReplicate]; try first | rfl | exact ⟨rfl, rfl⟩ | exact ⟨rfl, rfl, rfl⟩)) | ((apply go_glob; · assumption); · (simp (disch := omega) [go_sem, *, -List.reduceReplicate]; try first | rfl | exact ⟨rfl, rfl⟩ | exact ⟨rfl, rfl, rfl⟩)) | (apply go_read1; (· rfl); · (simp (disch := omega) [go_sem, *, -List.reduceReplicate]; try first | rfl | exact ⟨rfl, rfl⟩ | exact ⟨rfl, rfl, rfl⟩)) | (apply go_rw1; (· rfl); · (simp (disch := omega) [go_sem, *, -List.reduceReplicate]; try first | rfl | exact ⟨rfl, rfl⟩ | exact ⟨rfl, rfl, rfl⟩)) | (apply go_new1; (· rfl); · (simp (disch := omega) [go_sem, *, -List.reduceReplicate]; try first | rfl | exact ⟨rfl, rfl⟩ | exact ⟨rfl, rfl, rfl⟩)) | (apply go_conv; · (simp (disch := omega) [go_sem, *, -List.reduceReplicate]; try first | rfl | exact ⟨rfl, rfl⟩ | exact ⟨rfl, rfl, rfl⟩)) | ((first | (apply go_new; · rfl) | (apply go_pure; · rfl)); · (simp (disch := omega) [go_sem, *, -List.reduceReplicate]; simp [go_sem, *]; try first | rfl | exact ⟨rfl, rfl⟩)) | (apply go_condT; · (simp (disch := omega) [go_sem, *, -List.reduceReplicate]; try first | rfl | omega; done)) | (apply go_condF; · (simp (disch := omega) [go_sem, *, -List.reduceReplicate]; try first | rfl | omega; done)) | (obtain ⟨hcall, hcs⟩ := hcs; refine go_callw (hcall _) (by simp (disch := omega) [go_sem, *, -List.reduceReplicate]; try rfl) (by simp (disch := omega) [go_sem, *, -List.reduceReplicate]; repeat' first | exact ALe.nil | exact AV.le_refl _ | exact AV.le_nils | exact AV.le_own _ _ | apply ALe.cons | apply AV.sub_agg) (by simp (disch := omega) [go_sem, *, -List.reduceReplicate]) ?_; clear hcall))
    exact ⟨WS, WG, WN, _, (show 2 - (2) < m_1 by omega), 2, la + lb, rfl, WF, WF, WC⟩
  · have hcs := And.intro c1 True.intro
    refine Wk ?_
    refine go_loopF mixed (by kernel_rfl) [6, 8, 27, 28, 29, 30, 31, 32, 33, 34] [n_1+2] (fun m_ s_ σ_ n_ => ∃ (i : Nat) (v : Nat) (m : Nat) (xs : List AV), m_ = 2 - i ∧ s_ 27 = .lit (.int .i64 i) ∧ s_ 6 = .ms (n_1 + 2) v 1 0 m ∧ σ_ (n_1+2) = .mrow v 5 1 xs ∧ ((i = 0 ∧ v = 0 ∧ m = 0 ∧ xs = List.replicate (la + lb) (.lit (.int .u8 0))) ∨ (i = 1 ∧ v = 1 ∧ la = m ∧ xs = a.map byteAV) ∨ (i = 2 ∧ v = 2 ∧ la + lb = m ∧ xs = c.map byteAV))) ⟨_, 0, 0, 0, List.replicate (la + lb) (.lit (.int .u8 0)), rfl, WF, WF, WF, WC⟩ ?_
    intro m_2 s_2 σ_2 n_2 hs_2 hf_2 hn_2 hI_2
    obtain ⟨i, v, m, xs, hm_2, h2_27, h2_6, e2_0, hi⟩ := hI_2
    have h2_2 := (hs_2.at 2 (by decide)).trans WE
    have h2_25 := (hs_2.at 25 (by decide)).trans WE
    have h2_26 := (hs_2.at 26 (by decide)).trans WE
    have hlow : ∀ id, id < N → σ_2 id = σ id := fun id hid => (hf_2.at id (by omega) WQ).trans (by first | exact hlow id hid | exact WH)
    rcases hi with ⟨rfl, rfl, rfl, rfl⟩ | ⟨rfl, rfl, rfl, rfl⟩ | ⟨rfl, rfl, rfl, rfl⟩
    · repeat (first | apply go_nil | apply go_kreg | apply go_kreg0 | apply go_kreg1 | (apply go_kregT; · (first | (simp [addT, CF, CFy, Ind, DisjF]; done) | (simp only [addT, CF, CFy, Ind]; repeat' (first | exact trivial | apply And.intro | exact Or.inl (by decide +kernel) | (refine Or.inr ⟨?_, ?_⟩ <;> (simp; try omega)))))) | apply go_then | apply go_then_exit | apply go_then_ret | apply go_blk | apply go_blk_ret | apply go_blk_here | (apply go_blk_there; · rfl) | apply go_seq | (apply go_region; · (simp only [List.length_cons, List.length_nil, Nat.reduceAdd, Nat.add_assoc]; rfl)) | apply go_skip | apply go_block | apply go_scope | apply go_label | apply go_exit | apply go_ret | (apply go_mut; (· assumption); · (simp (disch := omega) [go_sem, *, -List.reduceReplicate]; first | exact ⟨rfl, rfl⟩ | (simp [go_sem, *]; exact ⟨rfl, rfl⟩))) | (apply go_mutP; (· assumption); · (simp (disch := omega) [go_sem, *, -List.reduceReplicate]; try first | rfl | exact ⟨rfl, rfl⟩ | exact ⟨rfl, rfl, rfl⟩)) | (apply go_guard_in; (· rfl); · (simp (disch := omega) [go_sem, *, -List.reduceReplicate]; try first | rfl | omega)) | (apply go_guard_off; (· rfl); · (simp (disch := omega) [go_sem, *, -List.reduceReplicate]; try first | rfl | omega)) | (apply go_guard_no; (· rfl); · (simp (disch := omega) [go_sem, *, -List.reduceReplicate]; try rfl)) | ((first | apply go_move | apply go_assign | apply go_load | apply go_store | apply go_append | apply go_copy | apply go_copy0 | apply go_clear0 | apply go_slice3 | apply go_indexA); · (simp (disch := omega) [go_sem, *, -List.reduceReplicate]; try first | rfl | exact ⟨rfl, rfl⟩ | exact ⟨rfl, rfl, rfl⟩)) | ((first | apply go_loadv | apply go_append0 | apply go_beyond); · (simp (disch := omega) [go_sem, *, -List.reduceReplicate]; try first | rfl | exact ⟨rfl, rfl⟩ | exact ⟨rfl, rfl, rfl⟩)) | (apply go_appself; · (simp (disch := omega) [go_sem, *, -List.reduceReplicate]; try first | rfl | exact ⟨rfl, rfl⟩ | exact ⟨rfl, rfl, rfl⟩)) | ((first | (apply go_appendz; · rfl) | (apply go_new; · rfl) | (apply go_pure; · rfl)); · (simp (disch := omega) [go_sem, *, -List.reduceReplicate]; try first | rfl | exact ⟨rfl, rfl⟩ | exact ⟨rfl, rfl, rfl⟩)) | ((apply go_glob; · assumption); · (simp (disch := omega) [go_sem, *, -List.reduceReplicate]; try first | rfl | exact ⟨rfl, rfl⟩ | exact ⟨rfl, rfl, rfl⟩)) | (apply go_read1; (· rfl); · (simp (disch := omega) [go_sem, *, -List.reduceReplicate]; try first | rfl | exact ⟨rfl, rfl⟩ | exact ⟨rfl, rfl, rfl⟩)) | (apply go_rw1; (· rfl); · (simp (disch := omega) [go_sem, *, -List.reduceReplicate]; try first | rfl | exact ⟨rfl, rfl⟩ | exact ⟨rfl, rfl, rfl⟩)) | (apply go_new1; (· rfl); · (simp (disch := omega) [go_sem, *, -List.reduceReplicate]; try first | rfl | exact ⟨rfl, rfl⟩ | exact ⟨rfl, rfl, rfl⟩)) | (apply go_conv; · (simp (disch := omega) [go_sem, *, -List.reduceReplicate]; try first | rfl | exact ⟨rfl, rfl⟩ | exact ⟨rfl, rfl, rfl⟩)) | ((first | (apply go_new; · rfl) | (apply go_pure; · rfl)); · (simp (disch := omega) [go_sem, *, -List.reduceReplicate]; simp [go_sem, *]; try first | rfl | exact ⟨rfl, rfl⟩)) | (apply go_condT; · (simp (disch := omega) [go_sem, *, -List.reduceReplicate]; try first | rfl | omega; done)) | (apply go_condF; · (simp (disch := omega) [go_sem, *, -List.reduceReplicate]; try first | rfl | omega; done)) | (obtain ⟨hcall, hcs⟩ := hcs; refine go_callw (hcall _) (by simp (disch := omega) [go_sem, *, -List.reduceReplicate]; try rfl) (by simp (disch := omega) [go_sem, *, -List.reduceReplicate]; repeat' first | exact ALe.nil | exact AV.le_refl _ | exact AV.le_nils | exact AV.le_own _ _ | apply ALe.cons | apply AV.sub_agg) (by simp (disch := omega) [go_sem, *, -List.reduceReplicate]) ?_; clear hcall))
      exact ⟨WS, WG, WN, _, (show 2 - (1) < m_2 by omega), 1, 1, la, a.map byteAV, rfl, WF, WF, WF, WC⟩
    · have ht : (a.map byteAV).take la = a.map byteAV := List.take_of_length_le (by simp [hla])
      repeat (first | apply go_nil | apply go_kreg | apply go_kreg0 | apply go_kreg1 | (apply go_kregT; · (first | (simp [addT, CF, CFy, Ind, DisjF]; done) | (simp only [addT, CF, CFy, Ind]; repeat' (first | exact trivial | apply And.intro | exact Or.inl (by decide +kernel) | (refine Or.inr ⟨?_, ?_⟩ <;> (simp; try omega)))))) | apply go_then | apply go_then_exit | apply go_then_ret | apply go_blk | apply go_blk_ret | apply go_blk_here | (apply go_blk_there; · rfl) | apply go_seq | (apply go_region; · (simp only [List.length_cons, List.length_nil, Nat.reduceAdd, Nat.add_assoc]; rfl)) | apply go_skip | apply go_block | apply go_scope | apply go_label | apply go_exit | apply go_ret | (apply go_mut; (· assumption); · (simp (disch := omega) [go_sem, *, -List.reduceReplicate]; first | exact ⟨rfl, rfl⟩ | (simp [go_sem, *]; exact ⟨rfl, rfl⟩))) | (apply go_mutP; (· assumption); · (simp (disch := omega) [go_sem, *, -List.reduceReplicate]; try first | rfl | exact ⟨rfl, rfl⟩ | exact ⟨rfl, rfl, rfl⟩)) | (apply go_guard_in; (· rfl); · (simp (disch := omega) [go_sem, *, -List.reduceReplicate]; try first | rfl | omega)) | (apply go_guard_off; (· rfl); · (simp (disch := omega) [go_sem, *, -List.reduceReplicate]; try first | rfl | omega)) | (apply go_guard_no; (· rfl); · (simp (disch := omega) [go_sem, *, -List.reduceReplicate]; try rfl)) | ((first | apply go_move | apply go_assign | apply go_load | apply go_store | apply go_append | apply go_copy | apply go_copy0 | apply go_clear0 | apply go_slice3 | apply go_indexA); · (simp (disch := omega) [go_sem, *, -List.reduceReplicate]; try first | rfl | exact ⟨rfl, rfl⟩ | exact ⟨rfl, rfl, rfl⟩)) | ((first | apply go_loadv | apply go_append0 | apply go_beyond); · (simp (disch := omega) [go_sem, *, -List.reduceReplicate]; try first | rfl | exact ⟨rfl, rfl⟩ | exact ⟨rfl, rfl, rfl⟩)) | (apply go_appself; · (simp (disch := omega) [go_sem, *, -List.reduceReplicate]; try first | rfl | exact ⟨rfl, rfl⟩ | exact ⟨rfl, rfl, rfl⟩)) | ((first | (apply go_appendz; · rfl) | (apply go_new; · rfl) | (apply go_pure; · rfl)); · (simp (disch := omega) [go_sem, *, -List.reduceReplicate]; try first | rfl | exact ⟨rfl, rfl⟩ | exact ⟨rfl, rfl, rfl⟩)) | ((apply go_glob; · assumption); · (simp (disch := omega) [go_sem, *, -List.reduceReplicate]; try first | rfl | exact ⟨rfl, rfl⟩ | exact ⟨rfl, rfl, rfl⟩)) | (apply go_read1; (· rfl); · (simp (disch := omega) [go_sem, *, -List.reduceReplicate]; try first | rfl | exact ⟨rfl, rfl⟩ | exact ⟨rfl, rfl, rfl⟩)) | (apply go_rw1; (· rfl); · (simp (disch := omega) [go_sem, *, -List.reduceReplicate]; try first | rfl | exact ⟨rfl, rfl⟩ | exact ⟨rfl, rfl, rfl⟩)) | (apply go_new1; (· rfl); · (simp (disch := omega) [go_sem, *, -List.reduceReplicate]; try first | rfl | exact ⟨rfl, rfl⟩ | exact ⟨rfl, rfl, rfl⟩)) | (apply go_conv; · (simp (disch := omega) [go_sem, *, -List.reduceReplicate]; try first | rfl | exact ⟨rfl, rfl⟩ | exact ⟨rfl, rfl, rfl⟩)) | ((first | (apply go_new; · rfl) | (apply go_pure; · rfl)); · (simp (disch := omega) [go_sem, *, -List.reduceReplicate]; simp [go_sem, *]; try first | rfl | exact ⟨rfl, rfl⟩)) | (apply go_condT; · (simp (disch := omega) [go_sem, *, -List.reduceReplicate]; try first | rfl | omega; done)) | (apply go_condF; · (simp (disch := omega) [go_sem, *, -List.reduceReplicate]; try first | rfl | omega; done)) | (obtain ⟨hcall, hcs⟩ := hcs; refine go_callw (hcall _) (by simp (disch := omega) [go_sem, *, -List.reduceReplicate]; try rfl) (by simp (disch := omega) [go_sem, *, -List.reduceReplicate]; repeat' first | exact ALe.nil | exact AV.le_refl _ | exact AV.le_nils | exact AV.le_own _ _ | apply ALe.cons | apply AV.sub_agg) (by simp (disch := omega) [go_sem, *, -List.reduceReplicate]) ?_; clear hcall))
      exact ⟨WS, WG, WN, _, (show 2 - (2) < m_2 by omega), 2, 2, la + lb, c.map byteAV, rfl, WF, WF, WF, WC⟩
    · clear hab
      refine go_freeze 6 (id := n_1 + 2) (xs := c.map byteAV) (k := la + lb) e2_0 h2_6 (by rw [List.length_map, hcl]) ?_
      refine Wk ?_
      refine go_result1 (r0 := n_1+2) (by simp (disch := omega) [go_sem, *, -List.reduceReplicate]; rfl) (by omega) (by simp (disch := omega) [go_sem]; try rfl) (fun id hid => by simp (disch := omega) only [upd_ne, wr_cons, wr_nil]; try exact hlow id hid) (by simp (disch := omega) only [upd_same, upd_ne]; rfl) (by simp (disch := omega) [go_sem])
end Go.Proofs.YtaelnglalpiemaaDoor

/- SHA-256: Write and New. -/
namespace Go.Proofs.YtaelnglalpiemaaDoor
open Go.Ab
attribute [local irreducible] Go.Ab.tyAV Go.Ab.aw Go.Ab.aops Go.Ab.kReg Go.Ab.aThen Go.Ab.aBlk Go.Ab.acond Go.Ab.aguard Go.Ab.astep Go.Ab.AStepX Go.Ab.aRet

theorem V8_len (v : V8) : v.l.length = 8 := rfl
@[go_sem] theorem v8_sz (v : V8) : (v8AV v).sz = 8 := by rw [v8AV, uuAV_sz, V8_len]
@[go_sem] theorem v8_isAgg (v : V8) : (v8AV v).isAgg = true := by rw [v8AV, uuAV_isAgg]
@[go_sem] theorem v8_cell (v : V8) : (v8AV v).cell = true := by rw [v8AV, uuAV_cell]
@[go_sem] theorem v8_ren (f : Nat → Option Nat) (v : V8) : (v8AV v).ren f = v8AV v := by rw [v8AV, uuAV_ren]
def hashAV (h : V8) (r : List UInt8) (n : Nat) : AV := .agg [v8AV h, .slice none (r.map byteAV), .lit (.int .i64 n)]
attribute [local irreducible] v8AV shaG
theorem drop_step (L : List UInt8) (hl : 64 ≤ L.length) : L.drop (64 * (L.length / 64)) = (L.drop 64).drop (64 * ((L.drop 64).length / 64)) := by
  rw [List.drop_drop, List.length_drop]; congr 1; omega
section
variable [W : W32]
/-- The state after q blocks. -/
def comp : Nat → V8 → List UInt8 → V8
  | 0, h, _ => h
  | q + 1, h, L => comp q (chg h (L.take 64)) (L.drop 64)
theorem comp_step (h : V8) (L : List UInt8) (hl : 64 ≤ L.length) : comp (L.length / 64) h L = comp ((L.drop 64).length / 64) (chg h (L.take 64)) (L.drop 64) := by
  have : L.length / 64 = (L.drop 64).length / 64 + 1 := by rw [List.length_drop]; omega
  rw [this, comp]
set_option maxHeartbeats 1000000 in
theorem Write_spec (h : V8) (r b : List UInt8) (n : Nat) (h0 : 0 < r.length + b.length) (hl : r.length + b.length ≤ 100000000) (hn : n ≤ 100000000) (k : Nat) {H : V8} {R : List UInt8} (hH : comp ((r ++ b).length / 64) h (r ++ b) = H) (hR : (r ++ b).drop (64 * ((r ++ b).length / 64)) = R) (g : Nat) :
    ACall Tryd.prog 90 [hashAV h r n, .slice none (b.map byteAV)] k [(g, shaG)] (hashAV H R (n + b.length)) [] := by
  have c1 := Concat_spec r b h0 hl
  have hbl : b.length ≤ 100000000 := by omega
  have hll : (r ++ b).length ≤ 100000000 := by rw [List.length_append]; exact hl
  obtain ⟨bl, hbl'⟩ : ∃ x, b.length = x := ⟨_, rfl⟩
  rw [hbl'] at hbl ⊢
  generalize r ++ b = L0 at *
  have hRl : R.length ≤ 100000000 := by rw [← hR, List.length_drop]; omega
  have c2 := SClone_spec R hRl
  have c3 : ∀ (v : V8) (B : List UInt8), B.length = 64 → ∀ k, ACall Tryd.prog 106 [v8AV v, .slice none (B.map byteAV)] k [(g, shaG)] (v8AV (chg v B)) [] := fun v B hB k => change_spec v B hB g k
  unfold hashAV
  refine ACall.of_body mixed Tryd.func90 rfl (by kernel_rfl) Tryd.ntmps90 (by kernel_rfl) rfl (by simp) (by simp) (by simp) fun σ N hp hpn hk hkn hfree => ?_
  have hd := hp _ (List.mem_singleton.2 rfl); have hdn := hpn _ (List.mem_singleton.2 rfl); simp only at hd hdn; clear hp hpn
  have hcs := And.intro c1 True.intro
  refine Wk ?_
  refine go_loopLF [5] mixed (by kernel_rfl) [5, 11, 12, 13, 14, 15, 16, 17, 18, 19, 20, 21] [N] (by decide) (fun m_ s_ σ_ n_ => ∃ (L : List UInt8) (v : V8), m_ = L.length ∧ s_ 5 = .slice none (L.map byteAV) ∧ σ_ (N) = .box 118 (.agg [v8AV v, .slice none (r.map byteAV), .lit (.int .i64 n)]) ∧ (L.length ≤ 100000000) ∧ (comp (L.length / 64) v L = H) ∧ (L.drop (64 * (L.length / 64)) = R)) ⟨_, L0, h, rfl, WF, WF, WC, WC, WC⟩ ?_
  intro m_1 s_1 σ_1 n_1 hs_1 hf_1 hn_1 hI_1
  obtain ⟨L, v, hm_1, h1_5, e1_0, hm, hH, hR⟩ := hI_1
  have h1_1 := (hs_1.at 1 (by decide)).trans WE
  have h1_2 := (hs_1.at 2 (by decide)).trans WE
  have h1_4 := (hs_1.at 4 (by decide)).trans WE
  have k1_0 := (hf_1.at (N+1) (by omega) WQ).trans WE
  have k1_1 := (hf_1.at (g) (by omega) WQ).trans WE
  have hlow : ∀ id, id < N → σ_1 id = σ id := fun id hid => (hf_1.at id (by omega) WQ).trans WH
  by_cases h64 : 64 ≤ L.length
  · have h64' : (64 : Int) ≤ (L.length : Int) := by omega
    rw [comp_step v L h64] at hH
    rw [drop_step L h64] at hR
    have c4 := c3 v (L.take 64) (by rw [List.length_take]; omega)
    have hTm : (L.map byteAV).take 64 = (L.take 64).map byteAV := by rw [List.map_take]
    have hDm : (L.map byteAV).drop 64 = (L.drop 64).map byteAV := by rw [List.map_drop]
    have hDl : (L.drop 64).length = L.length - 64 := by rw [List.length_drop]
    generalize chg v (L.take 64) = v' at *
    generalize L.take 64 = T at *
    generalize L.drop 64 = D at *
    have hcs := And.intro c4 True.intro
    clear c1 c2 c3 c4
    repeat (first | apply go_nil | apply go_kreg | apply go_kreg0 | apply go_kreg1 | (apply go_kregT; · (first | (simp [addT, CF, CFy, Ind, DisjF]; done) | (simp only [addT, CF, CFy, Ind]; repeat' (first | exact trivial | apply And.intro | exact Or.inl (by decide +kernel) | (refine Or.inr ⟨?_, ?_⟩ <;> (simp; try omega)))))) | apply go_then | apply go_then_exit | apply go_then_ret | apply go_blk | apply go_blk_ret | apply go_blk_here | (apply go_blk_there; · rfl) | apply go_seq | (apply go_region; · (simp only [List.length_cons, List.length_nil, Nat.reduceAdd, Nat.add_assoc]; rfl)) | apply go_skip | apply go_block | apply go_scope | apply go_label | apply go_exit | apply go_ret | (apply go_mut; (· assumption); · (simp (disch := omega) [go_sem, *, -List.reduceReplicate]; first | exact ⟨rfl, rfl⟩ | (simp [go_sem, *]; exact ⟨rfl, rfl⟩))) | (apply go_mutP; (· assumption); · (simp (disch := omega) [go_sem, *, -List.reduceReplicate]; try first | rfl | exact ⟨rfl, rfl⟩ | exact ⟨rfl, rfl, rfl⟩)) | (apply go_guard_in; (· rfl); · (simp (disch := omega) [go_sem, *, -List.reduceReplicate]; try first | rfl | omega)) | (apply go_guard_off; (· rfl); · (simp (disch := omega) [go_sem, *, -List.reduceReplicate]; try first | rfl | omega)) | (apply go_guard_no; (· rfl); · (simp (disch := omega) [go_sem, *, -List.reduceReplicate]; try rfl)) | ((first | apply go_move | apply go_assign | apply go_load | apply go_store | apply go_append | apply go_copy | apply go_copy0 | apply go_clear0 | apply go_slice3 | apply go_indexA); · (simp (disch := omega) [go_sem, *, -List.reduceReplicate]; try first | rfl | exact ⟨rfl, rfl⟩ | exact ⟨rfl, rfl, rfl⟩)) | ((first | apply go_loadv | apply go_append0 | apply go_beyond); · (simp (disch := omega) [go_sem, *, -List.reduceReplicate]; try first | rfl | exact ⟨rfl, rfl⟩ | exact ⟨rfl, rfl, rfl⟩)) | (apply go_appself; · (simp (disch := omega) [go_sem, *, -List.reduceReplicate]; try first | rfl | exact ⟨rfl, rfl⟩ | exact ⟨rfl, rfl, rfl⟩)) | ((first | (apply go_appendz; · rfl) | (apply go_new; · rfl) | (apply go_pure; · rfl)); · (simp (disch := omega) [go_sem, *, -List.reduceReplicate]; try first | rfl | exact ⟨rfl, rfl⟩ | exact ⟨rfl, rfl, rfl⟩)) | ((apply go_glob; · assumption); · (simp (disch := omega) [go_sem, *, -List.reduceReplicate]; try first | rfl | exact ⟨rfl, rfl⟩ | exact ⟨rfl, rfl, rfl⟩)) | (apply go_read1; (· rfl); · (simp (disch := omega) [go_sem, *, -List.reduceReplicate]; try first | rfl | exact ⟨rfl, rfl⟩ | exact ⟨rfl, rfl, rfl⟩)) | (apply go_rw1; (· rfl); · (simp (disch := omega) [go_sem, *, -List.reduceReplicate]; try first | rfl | exact ⟨rfl, rfl⟩ | exact ⟨rfl, rfl, rfl⟩)) | (apply go_new1; (· rfl); · (simp (disch := omega) [go_sem, *, -List.reduceReplicate]; try first | rfl | exact ⟨rfl, rfl⟩ | exact ⟨rfl, rfl, rfl⟩)) | (apply go_conv; · (simp (disch := omega) [go_sem, *, -List.reduceReplicate]; try first | rfl | exact ⟨rfl, rfl⟩ | exact ⟨rfl, rfl, rfl⟩)) | ((first | (apply go_new; · rfl) | (apply go_pure; · rfl)); · (simp (disch := omega) [go_sem, *, -List.reduceReplicate]; simp [go_sem, *]; try first | rfl | exact ⟨rfl, rfl⟩)) | (apply go_condT; · (simp (disch := omega) [go_sem, *, -List.reduceReplicate]; try first | rfl | omega; done)) | (apply go_condF; · (simp (disch := omega) [go_sem, *, -List.reduceReplicate]; try first | rfl | omega; done)) | (obtain ⟨hcall, hcs⟩ := hcs; refine go_callw (hcall _) (by simp (disch := omega) [go_sem, *, -List.reduceReplicate]; try rfl) (by simp (disch := omega) [go_sem, *, -List.reduceReplicate]; repeat' first | exact ALe.nil | exact AV.le_refl _ | exact AV.le_nils | exact AV.le_own _ _ | apply ALe.cons | apply AV.sub_agg) (by simp (disch := omega) [go_sem, *, -List.reduceReplicate]) ?_; clear hcall))
    exact ⟨WS, WG, WN, _, (show (D).length < m_1 by omega), D, v', rfl, WF, WF, WC, WC, WC⟩
  · have h64' : ¬ (64 : Int) ≤ (L.length : Int) := by omega
    have h0' : L.length / 64 = 0 := by omega
    rw [h0'] at hH hR
    simp only [comp, Nat.mul_zero, List.drop_zero] at hH hR
    subst hH hR
    have hwr : IntKind.i64.wrap ((n : Int) + bl) = n + bl := wrap_i64 (by omega) (by omega)
    have hcs := And.intro c2 True.intro
    clear c1 c2 c3
    rw [show ((n + bl : Nat) : Int) = (n : Int) + bl by omega]
    refine Wk ?_
    refine go_resultI (by simp (disch := omega) [go_sem, *, -List.reduceReplicate]; rfl) (AV.sub_agg (by repeat' first | exact ALe.nil | exact AV.le_refl _ | apply ALe.cons | ((first | apply AV.le_slices | apply AV.le_nilsE | apply AV.le_clipE); first | rfl | (simp (disch := omega) [go_sem, *, -List.reduceReplicate]; done)))) (by simp (disch := omega) [go_sem, -List.reduceReplicate]; try rfl) (fun id hid => by simp (disch := omega) only [upd_ne, wr_cons, wr_nil]; try exact hlow id hid)
end
end Go.Proofs.YtaelnglalpiemaaDoor

/- Shared: the eight bytes of a number. -/
namespace Go.Proofs.YtaelnglalpiemaaDoor
open Go.Ab
attribute [local irreducible] Go.Ab.tyAV Go.Ab.aw Go.Ab.aops Go.Ab.kReg Go.Ab.aThen Go.Ab.aBlk Go.Ab.acond Go.Ab.aguard Go.Ab.astep Go.Ab.AStepX Go.Ab.aRet

def sh8 (m : Int) (s : Nat) : UInt8 := UInt8.ofNat ((m / (2 : Int) ^ s) % 256).toNat
theorem sh8_toNat (m : Int) (s : Nat) : ((sh8 m s).toNat : Int) = (m / (2 : Int) ^ s) % 256 := by
  unfold sh8
  rw [UInt8.toNat_ofNat']
  omega
theorem sh8_wrap (m : Int) (s : Nat) : IntKind.u8.wrap (m.fdiv ((2 : Int) ^ s)) = ((sh8 m s).toNat : Int) := by
  have hp : (0 : Int) ≤ 2 ^ s := Int.le_of_lt (Int.pow_pos (by decide))
  rw [sh8_toNat, IntKind.wrap_u8, Int.fdiv_eq_ediv, if_pos (.inl hp), Int.sub_zero]
def eightB (m : Int) : List UInt8 := [sh8 m 56, sh8 m 48, sh8 m 40, sh8 m 32, sh8 m 24, sh8 m 16, sh8 m 8, sh8 m 0]
theorem eightB_len (m : Int) : (eightB m).length = 8 := rfl

attribute [go_sem] ren_byteAV
theorem Eight_spec (m : Int) (m0 : 0 ≤ m) (m1 : m < 18446744073709551616) (k : Nat) :
    ACall Tryd.prog 92 [.lit (.int .u64 m)] k [] (.slice none ((eightB m).map byteAV)) [] := by
  have e7 := sh8_wrap m 56
  have e6 := sh8_wrap m 48
  have e5 := sh8_wrap m 40
  have e4 := sh8_wrap m 32
  have e3 := sh8_wrap m 24
  have e2 := sh8_wrap m 16
  have e1 := sh8_wrap m 8
  have e0 := sh8_wrap m 0
  simp only [Int.reducePow, Int.pow_zero, Int.fdiv_one] at e7 e6 e5 e4 e3 e2 e1 e0
  unfold eightB
  generalize sh8 m 56 = b7 at *
  generalize sh8 m 48 = b6 at *
  generalize sh8 m 40 = b5 at *
  generalize sh8 m 32 = b4 at *
  generalize sh8 m 24 = b3 at *
  generalize sh8 m 16 = b2 at *
  generalize sh8 m 8 = b1 at *
  generalize sh8 m 0 = b0 at *
  refine ACall.of_body mixed Tryd.func92 rfl (by kernel_rfl) Tryd.ntmps92 (by kernel_rfl) rfl (by simp) (by simp) (by simp) fun σ N hp hpn hk hkn hfree => ?_
  refine Wk ?_
  refine ALoop.nilrow 3 5 1 (by simp (disch := omega) [go_sem, *, -List.reduceReplicate]) ?_
  refine go_loopB (N) mixed (by kernel_rfl) [3, 4, 5, 6, 7, 8, 9, 10, 11, 12, 13, 14, 15, 16] [] (fun m_ s_ σ_ n_ => ∃ (u : Nat) (q : Nat) (acc : List UInt8), m_ = 8 - u ∧ s_ 4 = .lit (.int .i64 (56 - 8 * (u : Int))) ∧ s_ 3 = .slice (some q) (acc.map byteAV) ∧ σ_ (q) = .row 5 1 acc.length ∧ (u ≤ 8) ∧ (N ≤ q) ∧ (q < n_) ∧ (acc = [b7, b6, b5, b4, b3, b2, b1, b0].take u)) ⟨_, 0, _, [], rfl, WF, WF, WF, WC, WC, WC, WC⟩ ?_
  intro m_1 s_1 σ_1 n_1 hs_1 hf_1 hn_1 hI_1
  obtain ⟨u, q, acc, hm_1, h1_4, h1_3, e1_0, hu, hq, hqn, hacc⟩ := hI_1
  have h1_0 := (hs_1.at 0 (by decide)).trans WE
  have h1_2 := (hs_1.at 2 (by decide)).trans WE
  have hlow : ∀ id, id < N → σ_1 id = σ id := fun id hid => (hf_1.at id (by omega) WQ).trans WH
  have hb7 : byteAV b7 = .lit (.int .u8 b7.toNat) := rfl
  have hb6 : byteAV b6 = .lit (.int .u8 b6.toNat) := rfl
  have hb5 : byteAV b5 = .lit (.int .u8 b5.toNat) := rfl
  have hb4 : byteAV b4 = .lit (.int .u8 b4.toNat) := rfl
  have hb3 : byteAV b3 = .lit (.int .u8 b3.toNat) := rfl
  have hb2 : byteAV b2 = .lit (.int .u8 b2.toNat) := rfl
  have hb1 : byteAV b1 = .lit (.int .u8 b1.toNat) := rfl
  have hb0 : byteAV b0 = .lit (.int .u8 b0.toNat) := rfl
  have hcase : u = 0 ∨ u = 1 ∨ u = 2 ∨ u = 3 ∨ u = 4 ∨ u = 5 ∨ u = 6 ∨ u = 7 ∨ u = 8 := by omega
  rcases hcase with rfl | hcase
  · simp only [List.take_succ_cons, List.take_zero] at hacc
    subst hacc
    refine Wk ?_
    exact ⟨WS, WG, WN, _, (show 8 - (1) < m_1 by omega), 1, q, [b7], rfl, WF, WF, WF, WC, WC, WC, WC⟩
  rcases hcase with rfl | hcase
  · simp only [List.take_succ_cons, List.take_zero] at hacc
    subst hacc
    refine Wk ?_
    exact ⟨WS, WG, WN, _, (show 8 - (2) < m_1 by omega), 2, q, [b7, b6], rfl, WF, WF, WF, WC, WC, WC, WC⟩
  rcases hcase with rfl | hcase
  · simp only [List.take_succ_cons, List.take_zero] at hacc
    subst hacc
    refine Wk ?_
    exact ⟨WS, WG, WN, _, (show 8 - (3) < m_1 by omega), 3, q, [b7, b6, b5], rfl, WF, WF, WF, WC, WC, WC, WC⟩
  rcases hcase with rfl | hcase
  · simp only [List.take_succ_cons, List.take_zero] at hacc
    subst hacc
    refine Wk ?_
    exact ⟨WS, WG, WN, _, (show 8 - (4) < m_1 by omega), 4, q, [b7, b6, b5, b4], rfl, WF, WF, WF, WC, WC, WC, WC⟩
  rcases hcase with rfl | hcase
  · simp only [List.take_succ_cons, List.take_zero] at hacc
    subst hacc
    refine Wk ?_
    exact ⟨WS, WG, WN, _, (show 8 - (5) < m_1 by omega), 5, q, [b7, b6, b5, b4, b3], rfl, WF, WF, WF, WC, WC, WC, WC⟩
  rcases hcase with rfl | hcase
  · simp only [List.take_succ_cons, List.take_zero] at hacc
    subst hacc
    refine Wk ?_
    exact ⟨WS, WG, WN, _, (show 8 - (6) < m_1 by omega), 6, q, [b7, b6, b5, b4, b3, b2], rfl, WF, WF, WF, WC, WC, WC, WC⟩
  rcases hcase with rfl | hcase
  · simp only [List.take_succ_cons, List.take_zero] at hacc
    subst hacc
    refine Wk ?_
    exact ⟨WS, WG, WN, _, (show 8 - (7) < m_1 by omega), 7, q, [b7, b6, b5, b4, b3, b2, b1], rfl, WF, WF, WF, WC, WC, WC, WC⟩
  rcases hcase with rfl | hcase
  · simp only [List.take_succ_cons, List.take_zero] at hacc
    subst hacc
    refine Wk ?_
    exact ⟨WS, WG, WN, _, (show 8 - (8) < m_1 by omega), 8, q, [b7, b6, b5, b4, b3, b2, b1, b0], rfl, WF, WF, WF, WC, WC, WC, WC⟩
  subst hcase
  simp only [List.take_succ_cons, List.take_zero] at hacc
  subst hacc
  exact WM
end Go.Proofs.YtaelnglalpiemaaDoor
