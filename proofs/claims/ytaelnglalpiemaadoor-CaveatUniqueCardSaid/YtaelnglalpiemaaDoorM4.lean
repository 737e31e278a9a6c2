/- Texts F, D1, R1, S1, K1, C8, K2, K3, K4, K5, N1, joined. -/
import Derived.Test.YtaelnglalpiemaaDoorM3
import Derived.Test.YtaelnglalpiemaaDoorRows
import Derived.KernelRfl
import Derived.Lib.LaidTab

/- Closed facts on the types of this seat's program, each by the kernel (written by facts.py off the given translation). -/
namespace Go.Proofs.YtaelnglalpiemaaDoor
open Go.Ab

theorem mixed : Tryd.prog.follows .mixedOrders = true := by kernel_rfl
@[go_sem] theorem ty1 : tyInfo Tryd.prog 1 = some (false, 1) := by kernel_rfl
@[go_sem] theorem by1 : byteTy Tryd.prog 1 = false := by kernel_rfl
@[go_sem] theorem cc1 : Program.concrete Tryd.prog 1 = true := by kernel_rfl
@[go_sem] theorem st1 : strTy Tryd.prog 1 = false := by kernel_rfl
@[go_sem] theorem nk1 : nilKind Tryd.prog 1 = 3 := by kernel_rfl
@[go_sem] theorem zt1 : ztree Tryd.prog 1 = some (.lit .nilFunc) := by kernel_rfl
@[go_sem] theorem ty2 : tyInfo Tryd.prog 2 = some (false, 1) := by kernel_rfl
@[go_sem] theorem it2 : intTy Tryd.prog 2 = some .i64 := by kernel_rfl
@[go_sem] theorem by2 : byteTy Tryd.prog 2 = false := by kernel_rfl
@[go_sem] theorem cc2 : Program.concrete Tryd.prog 2 = true := by kernel_rfl
@[go_sem] theorem st2 : strTy Tryd.prog 2 = false := by kernel_rfl
@[go_sem] theorem zt2 : ztree Tryd.prog 2 = some (.lit (.int .i64 0)) := by kernel_rfl
@[go_sem] theorem ty3 : tyInfo Tryd.prog 3 = some (false, 1) := by kernel_rfl
@[go_sem] theorem it3 : intTy Tryd.prog 3 = some .i64 := by kernel_rfl
@[go_sem] theorem by3 : byteTy Tryd.prog 3 = false := by kernel_rfl
@[go_sem] theorem cc3 : Program.concrete Tryd.prog 3 = true := by kernel_rfl
@[go_sem] theorem st3 : strTy Tryd.prog 3 = false := by kernel_rfl
@[go_sem] theorem zt3 : ztree Tryd.prog 3 = some (.lit (.int .i64 0)) := by kernel_rfl
@[go_sem] theorem ty4 : tyInfo Tryd.prog 4 = some (false, 1) := by kernel_rfl
@[go_sem] theorem by4 : byteTy Tryd.prog 4 = false := by kernel_rfl
@[go_sem] theorem cc4 : Program.concrete Tryd.prog 4 = true := by kernel_rfl
@[go_sem] theorem st4 : strTy Tryd.prog 4 = false := by kernel_rfl
@[go_sem] theorem bt4 : boolTy Tryd.prog 4 = true := by kernel_rfl
@[go_sem] theorem zt4 : ztree Tryd.prog 4 = some (.lit (.bool false)) := by kernel_rfl
@[go_sem] theorem ty5 : tyInfo Tryd.prog 5 = some (false, 1) := by kernel_rfl
@[go_sem] theorem it5 : intTy Tryd.prog 5 = some .u8 := by kernel_rfl
@[go_sem] theorem by5 : byteTy Tryd.prog 5 = true := by kernel_rfl
@[go_sem] theorem sz1_5 : sizeIs Tryd.prog 5 1 = true := by kernel_rfl
@[go_sem] theorem cc5 : Program.concrete Tryd.prog 5 = true := by kernel_rfl
@[go_sem] theorem st5 : strTy Tryd.prog 5 = false := by kernel_rfl
@[go_sem] theorem zt5 : ztree Tryd.prog 5 = some (.lit (.int .u8 0)) := by kernel_rfl
@[go_sem] theorem ty9 : tyInfo Tryd.prog 9 = some (false, 1) := by kernel_rfl
@[go_sem] theorem by9 : byteTy Tryd.prog 9 = false := by kernel_rfl
@[go_sem] theorem cc9 : Program.concrete Tryd.prog 9 = true := by kernel_rfl
@[go_sem] theorem st9 : strTy Tryd.prog 9 = true := by kernel_rfl
@[go_sem] theorem zt9 : ztree Tryd.prog 9 = some (.lit (.string ByteArray.empty)) := by kernel_rfl
@[go_sem] theorem ty12 : tyInfo Tryd.prog 12 = some (false, 1) := by kernel_rfl
@[go_sem] theorem it12 : intTy Tryd.prog 12 = some .u64 := by kernel_rfl
@[go_sem] theorem by12 : byteTy Tryd.prog 12 = false := by kernel_rfl
@[go_sem] theorem cc12 : Program.concrete Tryd.prog 12 = true := by kernel_rfl
@[go_sem] theorem st12 : strTy Tryd.prog 12 = false := by kernel_rfl
@[go_sem] theorem zt12 : ztree Tryd.prog 12 = some (.lit (.int .u64 0)) := by kernel_rfl
@[go_sem] theorem ty13 : tyInfo Tryd.prog 13 = some (true, 2) := by kernel_rfl
@[go_sem] theorem by13 : byteTy Tryd.prog 13 = false := by kernel_rfl
@[go_sem] theorem cc13 : Program.concrete Tryd.prog 13 = true := by kernel_rfl
@[go_sem] theorem st13 : strTy Tryd.prog 13 = false := by kernel_rfl
@[go_sem] theorem zt13 : ztree Tryd.prog 13 = some (.agg [(.lit (.string ByteArray.empty)), (.lit (.int .u64 0))]) := by kernel_rfl
@[go_sem] theorem sp13 : splaces Tryd.prog 13 = some [(0, 1), (1, 1)] := by kernel_rfl
@[go_sem] theorem fo13_0 : fieldOff Tryd.prog 13 0 = some 0 := by kernel_rfl
@[go_sem] theorem fo13_1 : fieldOff Tryd.prog 13 1 = some 1 := by kernel_rfl
@[go_sem] theorem ty20 : tyInfo Tryd.prog 20 = some (false, 1) := by kernel_rfl
@[go_sem] theorem by20 : byteTy Tryd.prog 20 = false := by kernel_rfl
@[go_sem] theorem st20 : strTy Tryd.prog 20 = false := by kernel_rfl
@[go_sem] theorem zt20 : ztree Tryd.prog 20 = some (.lit .nilIface) := by kernel_rfl
@[go_sem] theorem ty21 : tyInfo Tryd.prog 21 = some (false, 1) := by kernel_rfl
@[go_sem] theorem it21 : intTy Tryd.prog 21 = some .i32 := by kernel_rfl
@[go_sem] theorem by21 : byteTy Tryd.prog 21 = false := by kernel_rfl
@[go_sem] theorem cc21 : Program.concrete Tryd.prog 21 = true := by kernel_rfl
@[go_sem] theorem st21 : strTy Tryd.prog 21 = false := by kernel_rfl
@[go_sem] theorem zt21 : ztree Tryd.prog 21 = some (.lit (.int .i32 0)) := by kernel_rfl
@[go_sem] theorem ty22 : tyInfo Tryd.prog 22 = some (false, 1) := by kernel_rfl
@[go_sem] theorem it22 : intTy Tryd.prog 22 = some .u64 := by kernel_rfl
@[go_sem] theorem by22 : byteTy Tryd.prog 22 = false := by kernel_rfl
@[go_sem] theorem cc22 : Program.concrete Tryd.prog 22 = true := by kernel_rfl
@[go_sem] theorem st22 : strTy Tryd.prog 22 = false := by kernel_rfl
@[go_sem] theorem zt22 : ztree Tryd.prog 22 = some (.lit (.int .u64 0)) := by kernel_rfl
@[go_sem] theorem ty23 : tyInfo Tryd.prog 23 = some (true, 6) := by kernel_rfl
@[go_sem] theorem by23 : byteTy Tryd.prog 23 = false := by kernel_rfl
@[go_sem] theorem cc23 : Program.concrete Tryd.prog 23 = true := by kernel_rfl
@[go_sem] theorem st23 : strTy Tryd.prog 23 = false := by kernel_rfl
@[go_sem] theorem zt23 : ztree Tryd.prog 23 = some (.agg [(.lit (.int .i64 0)), (.lit (.int .u64 0)), (.lit (.int .i64 0)), (.lit (.int .i64 0)), (.lit (.string ByteArray.empty)), (.lit (.int .i64 0))]) := by kernel_rfl
@[go_sem] theorem sp23 : splaces Tryd.prog 23 = some [(0, 1), (1, 1), (2, 1), (3, 1), (4, 1), (5, 1)] := by kernel_rfl
@[go_sem] theorem fo23_0 : fieldOff Tryd.prog 23 0 = some 0 := by kernel_rfl
@[go_sem] theorem fo23_1 : fieldOff Tryd.prog 23 1 = some 1 := by kernel_rfl
@[go_sem] theorem fo23_2 : fieldOff Tryd.prog 23 2 = some 2 := by kernel_rfl
@[go_sem] theorem fo23_3 : fieldOff Tryd.prog 23 3 = some 3 := by kernel_rfl
@[go_sem] theorem fo23_4 : fieldOff Tryd.prog 23 4 = some 4 := by kernel_rfl
@[go_sem] theorem fo23_5 : fieldOff Tryd.prog 23 5 = some 5 := by kernel_rfl
@[go_sem] theorem ty24 : tyInfo Tryd.prog 24 = some (true, 6) := by kernel_rfl
@[go_sem] theorem by24 : byteTy Tryd.prog 24 = false := by kernel_rfl
@[go_sem] theorem cc24 : Program.concrete Tryd.prog 24 = true := by kernel_rfl
@[go_sem] theorem eq24 : eqTop Tryd.prog 24 = some (.agg [.int, .int, .int, .int, .str, .int]) := by kernel_rfl
@[go_sem] theorem st24 : strTy Tryd.prog 24 = false := by kernel_rfl
@[go_sem] theorem zt24 : ztree Tryd.prog 24 = some (.agg [(.lit (.int .i64 0)), (.lit (.int .u64 0)), (.lit (.int .i64 0)), (.lit (.int .i64 0)), (.lit (.string ByteArray.empty)), (.lit (.int .i64 0))]) := by kernel_rfl
@[go_sem] theorem sp24 : splaces Tryd.prog 24 = some [(0, 1), (1, 1), (2, 1), (3, 1), (4, 1), (5, 1)] := by kernel_rfl
@[go_sem] theorem fo24_0 : fieldOff Tryd.prog 24 0 = some 0 := by kernel_rfl
@[go_sem] theorem fo24_1 : fieldOff Tryd.prog 24 1 = some 1 := by kernel_rfl
@[go_sem] theorem fo24_2 : fieldOff Tryd.prog 24 2 = some 2 := by kernel_rfl
@[go_sem] theorem fo24_3 : fieldOff Tryd.prog 24 3 = some 3 := by kernel_rfl
@[go_sem] theorem fo24_4 : fieldOff Tryd.prog 24 4 = some 4 := by kernel_rfl
@[go_sem] theorem fo24_5 : fieldOff Tryd.prog 24 5 = some 5 := by kernel_rfl
@[go_sem] theorem ty25 : tyInfo Tryd.prog 25 = some (false, 1) := by kernel_rfl
@[go_sem] theorem by25 : byteTy Tryd.prog 25 = false := by kernel_rfl
@[go_sem] theorem cc25 : Program.concrete Tryd.prog 25 = true := by kernel_rfl
@[go_sem] theorem st25 : strTy Tryd.prog 25 = false := by kernel_rfl
@[go_sem] theorem sl25 : sliceTy Tryd.prog 25 = some 5 := by kernel_rfl
@[go_sem] theorem si25 : sliceInfo Tryd.prog 25 = some (5, 1, 1, (.lit (.int .u8 0))) := by kernel_rfl
@[go_sem] theorem nk25 : nilKind Tryd.prog 25 = 1 := by kernel_rfl
@[go_sem] theorem zt25 : ztree Tryd.prog 25 = some .nils := by kernel_rfl
@[go_sem] theorem ty26 : tyInfo Tryd.prog 26 = some (true, 10) := by kernel_rfl
@[go_sem] theorem by26 : byteTy Tryd.prog 26 = false := by kernel_rfl
@[go_sem] theorem cc26 : Program.concrete Tryd.prog 26 = true := by kernel_rfl
@[go_sem] theorem st26 : strTy Tryd.prog 26 = false := by kernel_rfl
@[go_sem] theorem zt26 : ztree Tryd.prog 26 = some (.agg [(.lit (.bool false)), (.agg [(.lit (.int .i64 0)), (.lit (.int .u64 0)), (.lit (.int .i64 0)), (.lit (.int .i64 0)), (.lit (.string ByteArray.empty)), (.lit (.int .i64 0))]), (.lit (.int .i64 0)), .nils, .nils]) := by kernel_rfl
@[go_sem] theorem sp26 : splaces Tryd.prog 26 = some [(0, 1), (1, 6), (7, 1), (8, 1), (9, 1)] := by kernel_rfl
@[go_sem] theorem fo26_0 : fieldOff Tryd.prog 26 0 = some 0 := by kernel_rfl
@[go_sem] theorem fo26_1 : fieldOff Tryd.prog 26 1 = some 1 := by kernel_rfl
@[go_sem] theorem fo26_2 : fieldOff Tryd.prog 26 2 = some 7 := by kernel_rfl
@[go_sem] theorem fo26_3 : fieldOff Tryd.prog 26 3 = some 8 := by kernel_rfl
@[go_sem] theorem fo26_4 : fieldOff Tryd.prog 26 4 = some 9 := by kernel_rfl
@[go_sem] theorem ty27 : tyInfo Tryd.prog 27 = some (true, 10) := by kernel_rfl
@[go_sem] theorem by27 : byteTy Tryd.prog 27 = false := by kernel_rfl
@[go_sem] theorem cc27 : Program.concrete Tryd.prog 27 = true := by kernel_rfl
@[go_sem] theorem st27 : strTy Tryd.prog 27 = false := by kernel_rfl
@[go_sem] theorem zt27 : ztree Tryd.prog 27 = some (.agg [(.lit (.bool false)), (.agg [(.lit (.int .i64 0)), (.lit (.int .u64 0)), (.lit (.int .i64 0)), (.lit (.int .i64 0)), (.lit (.string ByteArray.empty)), (.lit (.int .i64 0))]), (.lit (.int .i64 0)), .nils, .nils]) := by kernel_rfl
@[go_sem] theorem sp27 : splaces Tryd.prog 27 = some [(0, 1), (1, 6), (7, 1), (8, 1), (9, 1)] := by kernel_rfl
@[go_sem] theorem fo27_0 : fieldOff Tryd.prog 27 0 = some 0 := by kernel_rfl
@[go_sem] theorem fo27_1 : fieldOff Tryd.prog 27 1 = some 1 := by kernel_rfl
@[go_sem] theorem fo27_2 : fieldOff Tryd.prog 27 2 = some 7 := by kernel_rfl
@[go_sem] theorem fo27_3 : fieldOff Tryd.prog 27 3 = some 8 := by kernel_rfl
@[go_sem] theorem fo27_4 : fieldOff Tryd.prog 27 4 = some 9 := by kernel_rfl
@[go_sem] theorem ty28 : tyInfo Tryd.prog 28 = some (false, 1) := by kernel_rfl
@[go_sem] theorem by28 : byteTy Tryd.prog 28 = false := by kernel_rfl
@[go_sem] theorem cc28 : Program.concrete Tryd.prog 28 = true := by kernel_rfl
@[go_sem] theorem st28 : strTy Tryd.prog 28 = false := by kernel_rfl
@[go_sem] theorem sl28 : sliceTy Tryd.prog 28 = some 3 := by kernel_rfl
@[go_sem] theorem si28 : sliceInfo Tryd.prog 28 = some (3, 1, 8, (.lit (.int .i64 0))) := by kernel_rfl
@[go_sem] theorem nk28 : nilKind Tryd.prog 28 = 1 := by kernel_rfl
@[go_sem] theorem zt28 : ztree Tryd.prog 28 = some .nils := by kernel_rfl
@[go_sem] theorem ty29 : tyInfo Tryd.prog 29 = some (false, 1) := by kernel_rfl
@[go_sem] theorem by29 : byteTy Tryd.prog 29 = false := by kernel_rfl
@[go_sem] theorem cc29 : Program.concrete Tryd.prog 29 = true := by kernel_rfl
@[go_sem] theorem st29 : strTy Tryd.prog 29 = false := by kernel_rfl
@[go_sem] theorem nk29 : nilKind Tryd.prog 29 = 3 := by kernel_rfl
@[go_sem] theorem zt29 : ztree Tryd.prog 29 = some (.lit .nilFunc) := by kernel_rfl
@[go_sem] theorem ty30 : tyInfo Tryd.prog 30 = some (false, 1) := by kernel_rfl
@[go_sem] theorem by30 : byteTy Tryd.prog 30 = false := by kernel_rfl
@[go_sem] theorem cc30 : Program.concrete Tryd.prog 30 = true := by kernel_rfl
@[go_sem] theorem st30 : strTy Tryd.prog 30 = false := by kernel_rfl
@[go_sem] theorem nk30 : nilKind Tryd.prog 30 = 2 := by kernel_rfl
@[go_sem] theorem zt30 : ztree Tryd.prog 30 = some (.lit (.pointer none)) := by kernel_rfl
@[go_sem] theorem ty31 : tyInfo Tryd.prog 31 = some (false, 1) := by kernel_rfl
@[go_sem] theorem by31 : byteTy Tryd.prog 31 = false := by kernel_rfl
@[go_sem] theorem cc31 : Program.concrete Tryd.prog 31 = true := by kernel_rfl
@[go_sem] theorem st31 : strTy Tryd.prog 31 = false := by kernel_rfl
@[go_sem] theorem nk31 : nilKind Tryd.prog 31 = 3 := by kernel_rfl
@[go_sem] theorem zt31 : ztree Tryd.prog 31 = some (.lit .nilFunc) := by kernel_rfl
@[go_sem] theorem ty32 : tyInfo Tryd.prog 32 = some (false, 1) := by kernel_rfl
@[go_sem] theorem by32 : byteTy Tryd.prog 32 = false := by kernel_rfl
@[go_sem] theorem cc32 : Program.concrete Tryd.prog 32 = true := by kernel_rfl
@[go_sem] theorem st32 : strTy Tryd.prog 32 = false := by kernel_rfl
@[go_sem] theorem nk32 : nilKind Tryd.prog 32 = 3 := by kernel_rfl
@[go_sem] theorem zt32 : ztree Tryd.prog 32 = some (.lit .nilFunc) := by kernel_rfl
@[go_sem] theorem ty33 : tyInfo Tryd.prog 33 = some (false, 1) := by kernel_rfl
@[go_sem] theorem by33 : byteTy Tryd.prog 33 = false := by kernel_rfl
@[go_sem] theorem cc33 : Program.concrete Tryd.prog 33 = true := by kernel_rfl
@[go_sem] theorem st33 : strTy Tryd.prog 33 = false := by kernel_rfl
@[go_sem] theorem nk33 : nilKind Tryd.prog 33 = 3 := by kernel_rfl
@[go_sem] theorem zt33 : ztree Tryd.prog 33 = some (.lit .nilFunc) := by kernel_rfl
@[go_sem] theorem ty34 : tyInfo Tryd.prog 34 = some (false, 1) := by kernel_rfl
@[go_sem] theorem by34 : byteTy Tryd.prog 34 = false := by kernel_rfl
@[go_sem] theorem cc34 : Program.concrete Tryd.prog 34 = true := by kernel_rfl
@[go_sem] theorem st34 : strTy Tryd.prog 34 = false := by kernel_rfl
@[go_sem] theorem sl34 : sliceTy Tryd.prog 34 = some 27 := by kernel_rfl
@[go_sem] theorem si34 : sliceInfo Tryd.prog 34 = some (27, 10, 120, (.agg [(.lit (.bool false)), (.agg [(.lit (.int .i64 0)), (.lit (.int .u64 0)), (.lit (.int .i64 0)), (.lit (.int .i64 0)), (.lit (.string ByteArray.empty)), (.lit (.int .i64 0))]), (.lit (.int .i64 0)), .nils, .nils])) := by kernel_rfl
@[go_sem] theorem nk34 : nilKind Tryd.prog 34 = 1 := by kernel_rfl
@[go_sem] theorem zt34 : ztree Tryd.prog 34 = some .nils := by kernel_rfl
@[go_sem] theorem ty35 : tyInfo Tryd.prog 35 = some (false, 1) := by kernel_rfl
@[go_sem] theorem by35 : byteTy Tryd.prog 35 = false := by kernel_rfl
@[go_sem] theorem cc35 : Program.concrete Tryd.prog 35 = true := by kernel_rfl
@[go_sem] theorem st35 : strTy Tryd.prog 35 = false := by kernel_rfl
@[go_sem] theorem nk35 : nilKind Tryd.prog 35 = 3 := by kernel_rfl
@[go_sem] theorem zt35 : ztree Tryd.prog 35 = some (.lit .nilFunc) := by kernel_rfl
@[go_sem] theorem ty36 : tyInfo Tryd.prog 36 = some (false, 1) := by kernel_rfl
@[go_sem] theorem by36 : byteTy Tryd.prog 36 = false := by kernel_rfl
@[go_sem] theorem cc36 : Program.concrete Tryd.prog 36 = true := by kernel_rfl
@[go_sem] theorem st36 : strTy Tryd.prog 36 = false := by kernel_rfl
@[go_sem] theorem nk36 : nilKind Tryd.prog 36 = 3 := by kernel_rfl
@[go_sem] theorem zt36 : ztree Tryd.prog 36 = some (.lit .nilFunc) := by kernel_rfl
@[go_sem] theorem ty37 : tyInfo Tryd.prog 37 = some (false, 1) := by kernel_rfl
@[go_sem] theorem by37 : byteTy Tryd.prog 37 = false := by kernel_rfl
@[go_sem] theorem cc37 : Program.concrete Tryd.prog 37 = true := by kernel_rfl
@[go_sem] theorem st37 : strTy Tryd.prog 37 = false := by kernel_rfl
@[go_sem] theorem sl37 : sliceTy Tryd.prog 37 = some 24 := by kernel_rfl
@[go_sem] theorem si37 : sliceInfo Tryd.prog 37 = some (24, 6, 56, (.agg [(.lit (.int .i64 0)), (.lit (.int .u64 0)), (.lit (.int .i64 0)), (.lit (.int .i64 0)), (.lit (.string ByteArray.empty)), (.lit (.int .i64 0))])) := by kernel_rfl
@[go_sem] theorem nk37 : nilKind Tryd.prog 37 = 1 := by kernel_rfl
@[go_sem] theorem zt37 : ztree Tryd.prog 37 = some .nils := by kernel_rfl
@[go_sem] theorem ty38 : tyInfo Tryd.prog 38 = some (false, 1) := by kernel_rfl
@[go_sem] theorem by38 : byteTy Tryd.prog 38 = false := by kernel_rfl
@[go_sem] theorem cc38 : Program.concrete Tryd.prog 38 = true := by kernel_rfl
@[go_sem] theorem st38 : strTy Tryd.prog 38 = false := by kernel_rfl
@[go_sem] theorem nk38 : nilKind Tryd.prog 38 = 3 := by kernel_rfl
@[go_sem] theorem zt38 : ztree Tryd.prog 38 = some (.lit .nilFunc) := by kernel_rfl
@[go_sem] theorem ty39 : tyInfo Tryd.prog 39 = some (false, 1) := by kernel_rfl
@[go_sem] theorem by39 : byteTy Tryd.prog 39 = false := by kernel_rfl
@[go_sem] theorem cc39 : Program.concrete Tryd.prog 39 = true := by kernel_rfl
@[go_sem] theorem st39 : strTy Tryd.prog 39 = false := by kernel_rfl
@[go_sem] theorem nk39 : nilKind Tryd.prog 39 = 3 := by kernel_rfl
@[go_sem] theorem zt39 : ztree Tryd.prog 39 = some (.lit .nilFunc) := by kernel_rfl
@[go_sem] theorem ty40 : tyInfo Tryd.prog 40 = some (false, 1) := by kernel_rfl
@[go_sem] theorem by40 : byteTy Tryd.prog 40 = false := by kernel_rfl
@[go_sem] theorem cc40 : Program.concrete Tryd.prog 40 = true := by kernel_rfl
@[go_sem] theorem st40 : strTy Tryd.prog 40 = false := by kernel_rfl
@[go_sem] theorem nk40 : nilKind Tryd.prog 40 = 3 := by kernel_rfl
@[go_sem] theorem zt40 : ztree Tryd.prog 40 = some (.lit .nilFunc) := by kernel_rfl
@[go_sem] theorem ty41 : tyInfo Tryd.prog 41 = some (false, 1) := by kernel_rfl
@[go_sem] theorem by41 : byteTy Tryd.prog 41 = false := by kernel_rfl
@[go_sem] theorem cc41 : Program.concrete Tryd.prog 41 = true := by kernel_rfl
@[go_sem] theorem st41 : strTy Tryd.prog 41 = false := by kernel_rfl
@[go_sem] theorem nk41 : nilKind Tryd.prog 41 = 3 := by kernel_rfl
@[go_sem] theorem zt41 : ztree Tryd.prog 41 = some (.lit .nilFunc) := by kernel_rfl
@[go_sem] theorem ty42 : tyInfo Tryd.prog 42 = some (false, 1) := by kernel_rfl
@[go_sem] theorem it42 : intTy Tryd.prog 42 = some .u16 := by kernel_rfl
@[go_sem] theorem by42 : byteTy Tryd.prog 42 = false := by kernel_rfl
@[go_sem] theorem cc42 : Program.concrete Tryd.prog 42 = true := by kernel_rfl
@[go_sem] theorem st42 : strTy Tryd.prog 42 = false := by kernel_rfl
@[go_sem] theorem zt42 : ztree Tryd.prog 42 = some (.lit (.int .u16 0)) := by kernel_rfl
@[go_sem] theorem ty43 : tyInfo Tryd.prog 43 = some (false, 1) := by kernel_rfl
@[go_sem] theorem it43 : intTy Tryd.prog 43 = some .i64 := by kernel_rfl
@[go_sem] theorem by43 : byteTy Tryd.prog 43 = false := by kernel_rfl
@[go_sem] theorem cc43 : Program.concrete Tryd.prog 43 = true := by kernel_rfl
@[go_sem] theorem st43 : strTy Tryd.prog 43 = false := by kernel_rfl
@[go_sem] theorem zt43 : ztree Tryd.prog 43 = some (.lit (.int .i64 0)) := by kernel_rfl
@[go_sem] theorem ty45 : tyInfo Tryd.prog 45 = some (false, 1) := by kernel_rfl
@[go_sem] theorem by45 : byteTy Tryd.prog 45 = false := by kernel_rfl
@[go_sem] theorem cc45 : Program.concrete Tryd.prog 45 = true := by kernel_rfl
@[go_sem] theorem st45 : strTy Tryd.prog 45 = false := by kernel_rfl
@[go_sem] theorem nk45 : nilKind Tryd.prog 45 = 3 := by kernel_rfl
@[go_sem] theorem zt45 : ztree Tryd.prog 45 = some (.lit .nilFunc) := by kernel_rfl
@[go_sem] theorem ty46 : tyInfo Tryd.prog 46 = some (false, 1) := by kernel_rfl
@[go_sem] theorem by46 : byteTy Tryd.prog 46 = false := by kernel_rfl
@[go_sem] theorem cc46 : Program.concrete Tryd.prog 46 = true := by kernel_rfl
@[go_sem] theorem st46 : strTy Tryd.prog 46 = false := by kernel_rfl
@[go_sem] theorem nk46 : nilKind Tryd.prog 46 = 3 := by kernel_rfl
@[go_sem] theorem zt46 : ztree Tryd.prog 46 = some (.lit .nilFunc) := by kernel_rfl
@[go_sem] theorem ty47 : tyInfo Tryd.prog 47 = some (true, 2) := by kernel_rfl
@[go_sem] theorem by47 : byteTy Tryd.prog 47 = false := by kernel_rfl
@[go_sem] theorem cc47 : Program.concrete Tryd.prog 47 = true := by kernel_rfl
@[go_sem] theorem st47 : strTy Tryd.prog 47 = false := by kernel_rfl
@[go_sem] theorem ar47 : arrInfo Tryd.prog 47 = some (2, 25, 1) := by kernel_rfl
@[go_sem] theorem sp47 : splaces Tryd.prog 47 = none := by kernel_rfl
@[go_sem] theorem zt47 : ztree Tryd.prog 47 = some (.agg (List.replicate 2 .nils)) := by kernel_rfl
@[go_sem] theorem ty48 : tyInfo Tryd.prog 48 = some (true, 8) := by kernel_rfl
@[go_sem] theorem by48 : byteTy Tryd.prog 48 = false := by kernel_rfl
@[go_sem] theorem cc48 : Program.concrete Tryd.prog 48 = true := by kernel_rfl
@[go_sem] theorem st48 : strTy Tryd.prog 48 = false := by kernel_rfl
@[go_sem] theorem zt48 : ztree Tryd.prog 48 = some (.agg [(.agg (List.replicate 2 .nils)), (.lit (.int .i64 0)), (.lit (.int .i64 0)), (.lit (.int .i64 0)), (.lit (.int .i64 0)), (.lit (.int .i64 0)), (.lit (.bool false))]) := by kernel_rfl
@[go_sem] theorem sp48 : splaces Tryd.prog 48 = some [(0, 2), (2, 1), (3, 1), (4, 1), (5, 1), (6, 1), (7, 1)] := by kernel_rfl
@[go_sem] theorem fo48_0 : fieldOff Tryd.prog 48 0 = some 0 := by kernel_rfl
@[go_sem] theorem fo48_1 : fieldOff Tryd.prog 48 1 = some 2 := by kernel_rfl
@[go_sem] theorem fo48_2 : fieldOff Tryd.prog 48 2 = some 3 := by kernel_rfl
@[go_sem] theorem fo48_3 : fieldOff Tryd.prog 48 3 = some 4 := by kernel_rfl
@[go_sem] theorem fo48_4 : fieldOff Tryd.prog 48 4 = some 5 := by kernel_rfl
@[go_sem] theorem fo48_5 : fieldOff Tryd.prog 48 5 = some 6 := by kernel_rfl
@[go_sem] theorem fo48_6 : fieldOff Tryd.prog 48 6 = some 7 := by kernel_rfl
@[go_sem] theorem ty49 : tyInfo Tryd.prog 49 = some (true, 8) := by kernel_rfl
@[go_sem] theorem by49 : byteTy Tryd.prog 49 = false := by kernel_rfl
@[go_sem] theorem cc49 : Program.concrete Tryd.prog 49 = true := by kernel_rfl
@[go_sem] theorem st49 : strTy Tryd.prog 49 = false := by kernel_rfl
@[go_sem] theorem zt49 : ztree Tryd.prog 49 = some (.agg [(.agg (List.replicate 2 .nils)), (.lit (.int .i64 0)), (.lit (.int .i64 0)), (.lit (.int .i64 0)), (.lit (.int .i64 0)), (.lit (.int .i64 0)), (.lit (.bool false))]) := by kernel_rfl
@[go_sem] theorem sp49 : splaces Tryd.prog 49 = some [(0, 2), (2, 1), (3, 1), (4, 1), (5, 1), (6, 1), (7, 1)] := by kernel_rfl
@[go_sem] theorem fo49_0 : fieldOff Tryd.prog 49 0 = some 0 := by kernel_rfl
@[go_sem] theorem fo49_1 : fieldOff Tryd.prog 49 1 = some 2 := by kernel_rfl
@[go_sem] theorem fo49_2 : fieldOff Tryd.prog 49 2 = some 3 := by kernel_rfl
@[go_sem] theorem fo49_3 : fieldOff Tryd.prog 49 3 = some 4 := by kernel_rfl
@[go_sem] theorem fo49_4 : fieldOff Tryd.prog 49 4 = some 5 := by kernel_rfl
@[go_sem] theorem fo49_5 : fieldOff Tryd.prog 49 5 = some 6 := by kernel_rfl
@[go_sem] theorem fo49_6 : fieldOff Tryd.prog 49 6 = some 7 := by kernel_rfl
@[go_sem] theorem ty51 : tyInfo Tryd.prog 51 = some (false, 1) := by kernel_rfl
@[go_sem] theorem by51 : byteTy Tryd.prog 51 = false := by kernel_rfl
@[go_sem] theorem cc51 : Program.concrete Tryd.prog 51 = true := by kernel_rfl
@[go_sem] theorem st51 : strTy Tryd.prog 51 = false := by kernel_rfl
@[go_sem] theorem nk51 : nilKind Tryd.prog 51 = 3 := by kernel_rfl
@[go_sem] theorem zt51 : ztree Tryd.prog 51 = some (.lit .nilFunc) := by kernel_rfl
@[go_sem] theorem ty52 : tyInfo Tryd.prog 52 = some (false, 1) := by kernel_rfl
@[go_sem] theorem by52 : byteTy Tryd.prog 52 = false := by kernel_rfl
@[go_sem] theorem cc52 : Program.concrete Tryd.prog 52 = true := by kernel_rfl
@[go_sem] theorem st52 : strTy Tryd.prog 52 = false := by kernel_rfl
@[go_sem] theorem nk52 : nilKind Tryd.prog 52 = 3 := by kernel_rfl
@[go_sem] theorem zt52 : ztree Tryd.prog 52 = some (.lit .nilFunc) := by kernel_rfl
@[go_sem] theorem ty53 : tyInfo Tryd.prog 53 = some (false, 1) := by kernel_rfl
@[go_sem] theorem by53 : byteTy Tryd.prog 53 = false := by kernel_rfl
@[go_sem] theorem cc53 : Program.concrete Tryd.prog 53 = true := by kernel_rfl
@[go_sem] theorem st53 : strTy Tryd.prog 53 = false := by kernel_rfl
@[go_sem] theorem nk53 : nilKind Tryd.prog 53 = 3 := by kernel_rfl
@[go_sem] theorem zt53 : ztree Tryd.prog 53 = some (.lit .nilFunc) := by kernel_rfl
@[go_sem] theorem ty54 : tyInfo Tryd.prog 54 = some (false, 1) := by kernel_rfl
@[go_sem] theorem by54 : byteTy Tryd.prog 54 = false := by kernel_rfl
@[go_sem] theorem cc54 : Program.concrete Tryd.prog 54 = true := by kernel_rfl
@[go_sem] theorem st54 : strTy Tryd.prog 54 = false := by kernel_rfl
@[go_sem] theorem sl54 : sliceTy Tryd.prog 54 = some 25 := by kernel_rfl
@[go_sem] theorem si54 : sliceInfo Tryd.prog 54 = some (25, 1, 24, .nils) := by kernel_rfl
@[go_sem] theorem nk54 : nilKind Tryd.prog 54 = 1 := by kernel_rfl
@[go_sem] theorem zt54 : ztree Tryd.prog 54 = some .nils := by kernel_rfl
@[go_sem] theorem ty56 : tyInfo Tryd.prog 56 = some (false, 1) := by kernel_rfl
@[go_sem] theorem by56 : byteTy Tryd.prog 56 = false := by kernel_rfl
@[go_sem] theorem cc56 : Program.concrete Tryd.prog 56 = true := by kernel_rfl
@[go_sem] theorem st56 : strTy Tryd.prog 56 = false := by kernel_rfl
@[go_sem] theorem nk56 : nilKind Tryd.prog 56 = 3 := by kernel_rfl
@[go_sem] theorem zt56 : ztree Tryd.prog 56 = some (.lit .nilFunc) := by kernel_rfl
@[go_sem] theorem ty57 : tyInfo Tryd.prog 57 = some (false, 1) := by kernel_rfl
@[go_sem] theorem by57 : byteTy Tryd.prog 57 = false := by kernel_rfl
@[go_sem] theorem cc57 : Program.concrete Tryd.prog 57 = true := by kernel_rfl
@[go_sem] theorem st57 : strTy Tryd.prog 57 = false := by kernel_rfl
@[go_sem] theorem nk57 : nilKind Tryd.prog 57 = 3 := by kernel_rfl
@[go_sem] theorem zt57 : ztree Tryd.prog 57 = some (.lit .nilFunc) := by kernel_rfl
@[go_sem] theorem ty58 : tyInfo Tryd.prog 58 = some (false, 1) := by kernel_rfl
@[go_sem] theorem by58 : byteTy Tryd.prog 58 = false := by kernel_rfl
@[go_sem] theorem cc58 : Program.concrete Tryd.prog 58 = true := by kernel_rfl
@[go_sem] theorem st58 : strTy Tryd.prog 58 = false := by kernel_rfl
@[go_sem] theorem nk58 : nilKind Tryd.prog 58 = 3 := by kernel_rfl
@[go_sem] theorem zt58 : ztree Tryd.prog 58 = some (.lit .nilFunc) := by kernel_rfl
@[go_sem] theorem ty60 : tyInfo Tryd.prog 60 = some (false, 1) := by kernel_rfl
@[go_sem] theorem by60 : byteTy Tryd.prog 60 = false := by kernel_rfl
@[go_sem] theorem cc60 : Program.concrete Tryd.prog 60 = true := by kernel_rfl
@[go_sem] theorem st60 : strTy Tryd.prog 60 = false := by kernel_rfl
@[go_sem] theorem nk60 : nilKind Tryd.prog 60 = 3 := by kernel_rfl
@[go_sem] theorem zt60 : ztree Tryd.prog 60 = some (.lit .nilFunc) := by kernel_rfl
@[go_sem] theorem ty61 : tyInfo Tryd.prog 61 = some (false, 1) := by kernel_rfl
@[go_sem] theorem by61 : byteTy Tryd.prog 61 = false := by kernel_rfl
@[go_sem] theorem cc61 : Program.concrete Tryd.prog 61 = true := by kernel_rfl
@[go_sem] theorem st61 : strTy Tryd.prog 61 = false := by kernel_rfl
@[go_sem] theorem nk61 : nilKind Tryd.prog 61 = 3 := by kernel_rfl
@[go_sem] theorem zt61 : ztree Tryd.prog 61 = some (.lit .nilFunc) := by kernel_rfl
@[go_sem] theorem ty62 : tyInfo Tryd.prog 62 = some (false, 1) := by kernel_rfl
@[go_sem] theorem by62 : byteTy Tryd.prog 62 = false := by kernel_rfl
@[go_sem] theorem cc62 : Program.concrete Tryd.prog 62 = true := by kernel_rfl
@[go_sem] theorem st62 : strTy Tryd.prog 62 = false := by kernel_rfl
@[go_sem] theorem nk62 : nilKind Tryd.prog 62 = 3 := by kernel_rfl
@[go_sem] theorem zt62 : ztree Tryd.prog 62 = some (.lit .nilFunc) := by kernel_rfl
@[go_sem] theorem ty63 : tyInfo Tryd.prog 63 = some (false, 1) := by kernel_rfl
@[go_sem] theorem by63 : byteTy Tryd.prog 63 = false := by kernel_rfl
@[go_sem] theorem cc63 : Program.concrete Tryd.prog 63 = true := by kernel_rfl
@[go_sem] theorem st63 : strTy Tryd.prog 63 = false := by kernel_rfl
@[go_sem] theorem nk63 : nilKind Tryd.prog 63 = 3 := by kernel_rfl
@[go_sem] theorem zt63 : ztree Tryd.prog 63 = some (.lit .nilFunc) := by kernel_rfl
@[go_sem] theorem ty64 : tyInfo Tryd.prog 64 = some (false, 1) := by kernel_rfl
@[go_sem] theorem by64 : byteTy Tryd.prog 64 = false := by kernel_rfl
@[go_sem] theorem cc64 : Program.concrete Tryd.prog 64 = true := by kernel_rfl
@[go_sem] theorem st64 : strTy Tryd.prog 64 = false := by kernel_rfl
@[go_sem] theorem nk64 : nilKind Tryd.prog 64 = 3 := by kernel_rfl
@[go_sem] theorem zt64 : ztree Tryd.prog 64 = some (.lit .nilFunc) := by kernel_rfl
@[go_sem] theorem ty65 : tyInfo Tryd.prog 65 = some (false, 1) := by kernel_rfl
@[go_sem] theorem by65 : byteTy Tryd.prog 65 = false := by kernel_rfl
@[go_sem] theorem cc65 : Program.concrete Tryd.prog 65 = true := by kernel_rfl
@[go_sem] theorem st65 : strTy Tryd.prog 65 = false := by kernel_rfl
@[go_sem] theorem nk65 : nilKind Tryd.prog 65 = 3 := by kernel_rfl
@[go_sem] theorem zt65 : ztree Tryd.prog 65 = some (.lit .nilFunc) := by kernel_rfl
@[go_sem] theorem ty66 : tyInfo Tryd.prog 66 = some (false, 1) := by kernel_rfl
@[go_sem] theorem by66 : byteTy Tryd.prog 66 = false := by kernel_rfl
@[go_sem] theorem cc66 : Program.concrete Tryd.prog 66 = true := by kernel_rfl
@[go_sem] theorem st66 : strTy Tryd.prog 66 = false := by kernel_rfl
@[go_sem] theorem sl66 : sliceTy Tryd.prog 66 = some 49 := by kernel_rfl
@[go_sem] theorem si66 : sliceInfo Tryd.prog 66 = some (49, 8, 96, (.agg [(.agg (List.replicate 2 .nils)), (.lit (.int .i64 0)), (.lit (.int .i64 0)), (.lit (.int .i64 0)), (.lit (.int .i64 0)), (.lit (.int .i64 0)), (.lit (.bool false))])) := by kernel_rfl
@[go_sem] theorem nk66 : nilKind Tryd.prog 66 = 1 := by kernel_rfl
@[go_sem] theorem zt66 : ztree Tryd.prog 66 = some .nils := by kernel_rfl
@[go_sem] theorem ty67 : tyInfo Tryd.prog 67 = some (false, 1) := by kernel_rfl
@[go_sem] theorem by67 : byteTy Tryd.prog 67 = false := by kernel_rfl
@[go_sem] theorem cc67 : Program.concrete Tryd.prog 67 = true := by kernel_rfl
@[go_sem] theorem st67 : strTy Tryd.prog 67 = false := by kernel_rfl
@[go_sem] theorem nk67 : nilKind Tryd.prog 67 = 3 := by kernel_rfl
@[go_sem] theorem zt67 : ztree Tryd.prog 67 = some (.lit .nilFunc) := by kernel_rfl
@[go_sem] theorem ty68 : tyInfo Tryd.prog 68 = some (false, 1) := by kernel_rfl
@[go_sem] theorem by68 : byteTy Tryd.prog 68 = false := by kernel_rfl
@[go_sem] theorem cc68 : Program.concrete Tryd.prog 68 = true := by kernel_rfl
@[go_sem] theorem st68 : strTy Tryd.prog 68 = false := by kernel_rfl
@[go_sem] theorem nk68 : nilKind Tryd.prog 68 = 3 := by kernel_rfl
@[go_sem] theorem zt68 : ztree Tryd.prog 68 = some (.lit .nilFunc) := by kernel_rfl
@[go_sem] theorem ty69 : tyInfo Tryd.prog 69 = some (false, 1) := by kernel_rfl
@[go_sem] theorem by69 : byteTy Tryd.prog 69 = false := by kernel_rfl
@[go_sem] theorem cc69 : Program.concrete Tryd.prog 69 = true := by kernel_rfl
@[go_sem] theorem st69 : strTy Tryd.prog 69 = false := by kernel_rfl
@[go_sem] theorem nk69 : nilKind Tryd.prog 69 = 3 := by kernel_rfl
@[go_sem] theorem zt69 : ztree Tryd.prog 69 = some (.lit .nilFunc) := by kernel_rfl
@[go_sem] theorem ty70 : tyInfo Tryd.prog 70 = some (false, 1) := by kernel_rfl
@[go_sem] theorem by70 : byteTy Tryd.prog 70 = false := by kernel_rfl
@[go_sem] theorem cc70 : Program.concrete Tryd.prog 70 = true := by kernel_rfl
@[go_sem] theorem st70 : strTy Tryd.prog 70 = false := by kernel_rfl
@[go_sem] theorem nk70 : nilKind Tryd.prog 70 = 3 := by kernel_rfl
@[go_sem] theorem zt70 : ztree Tryd.prog 70 = some (.lit .nilFunc) := by kernel_rfl
@[go_sem] theorem ty71 : tyInfo Tryd.prog 71 = some (false, 1) := by kernel_rfl
@[go_sem] theorem by71 : byteTy Tryd.prog 71 = false := by kernel_rfl
@[go_sem] theorem cc71 : Program.concrete Tryd.prog 71 = true := by kernel_rfl
@[go_sem] theorem st71 : strTy Tryd.prog 71 = false := by kernel_rfl
@[go_sem] theorem nk71 : nilKind Tryd.prog 71 = 3 := by kernel_rfl
@[go_sem] theorem zt71 : ztree Tryd.prog 71 = some (.lit .nilFunc) := by kernel_rfl
@[go_sem] theorem ty73 : tyInfo Tryd.prog 73 = some (false, 1) := by kernel_rfl
@[go_sem] theorem by73 : byteTy Tryd.prog 73 = false := by kernel_rfl
@[go_sem] theorem cc73 : Program.concrete Tryd.prog 73 = true := by kernel_rfl
@[go_sem] theorem st73 : strTy Tryd.prog 73 = false := by kernel_rfl
@[go_sem] theorem nk73 : nilKind Tryd.prog 73 = 3 := by kernel_rfl
@[go_sem] theorem zt73 : ztree Tryd.prog 73 = some (.lit .nilFunc) := by kernel_rfl
@[go_sem] theorem ty74 : tyInfo Tryd.prog 74 = some (false, 1) := by kernel_rfl
@[go_sem] theorem by74 : byteTy Tryd.prog 74 = false := by kernel_rfl
@[go_sem] theorem cc74 : Program.concrete Tryd.prog 74 = true := by kernel_rfl
@[go_sem] theorem st74 : strTy Tryd.prog 74 = false := by kernel_rfl
@[go_sem] theorem nk74 : nilKind Tryd.prog 74 = 3 := by kernel_rfl
@[go_sem] theorem zt74 : ztree Tryd.prog 74 = some (.lit .nilFunc) := by kernel_rfl
@[go_sem] theorem ty75 : tyInfo Tryd.prog 75 = some (false, 1) := by kernel_rfl
@[go_sem] theorem by75 : byteTy Tryd.prog 75 = false := by kernel_rfl
@[go_sem] theorem cc75 : Program.concrete Tryd.prog 75 = true := by kernel_rfl
@[go_sem] theorem st75 : strTy Tryd.prog 75 = false := by kernel_rfl
@[go_sem] theorem nk75 : nilKind Tryd.prog 75 = 3 := by kernel_rfl
@[go_sem] theorem zt75 : ztree Tryd.prog 75 = some (.lit .nilFunc) := by kernel_rfl
@[go_sem] theorem ty76 : tyInfo Tryd.prog 76 = some (false, 1) := by kernel_rfl
@[go_sem] theorem by76 : byteTy Tryd.prog 76 = false := by kernel_rfl
@[go_sem] theorem cc76 : Program.concrete Tryd.prog 76 = true := by kernel_rfl
@[go_sem] theorem st76 : strTy Tryd.prog 76 = false := by kernel_rfl
@[go_sem] theorem nk76 : nilKind Tryd.prog 76 = 3 := by kernel_rfl
@[go_sem] theorem zt76 : ztree Tryd.prog 76 = some (.lit .nilFunc) := by kernel_rfl
@[go_sem] theorem ty77 : tyInfo Tryd.prog 77 = some (true, 2) := by kernel_rfl
@[go_sem] theorem by77 : byteTy Tryd.prog 77 = false := by kernel_rfl
@[go_sem] theorem cc77 : Program.concrete Tryd.prog 77 = true := by kernel_rfl
@[go_sem] theorem st77 : strTy Tryd.prog 77 = false := by kernel_rfl
@[go_sem] theorem zt77 : ztree Tryd.prog 77 = some (.agg [.nils, (.lit (.int .i64 0))]) := by kernel_rfl
@[go_sem] theorem sp77 : splaces Tryd.prog 77 = some [(0, 1), (1, 1)] := by kernel_rfl
@[go_sem] theorem fo77_0 : fieldOff Tryd.prog 77 0 = some 0 := by kernel_rfl
@[go_sem] theorem fo77_1 : fieldOff Tryd.prog 77 1 = some 1 := by kernel_rfl
@[go_sem] theorem ty78 : tyInfo Tryd.prog 78 = some (true, 2) := by kernel_rfl
@[go_sem] theorem by78 : byteTy Tryd.prog 78 = false := by kernel_rfl
@[go_sem] theorem cc78 : Program.concrete Tryd.prog 78 = true := by kernel_rfl
@[go_sem] theorem st78 : strTy Tryd.prog 78 = false := by kernel_rfl
@[go_sem] theorem zt78 : ztree Tryd.prog 78 = some (.agg [.nils, (.lit (.int .i64 0))]) := by kernel_rfl
@[go_sem] theorem sp78 : splaces Tryd.prog 78 = some [(0, 1), (1, 1)] := by kernel_rfl
@[go_sem] theorem fo78_0 : fieldOff Tryd.prog 78 0 = some 0 := by kernel_rfl
@[go_sem] theorem fo78_1 : fieldOff Tryd.prog 78 1 = some 1 := by kernel_rfl
@[go_sem] theorem ty79 : tyInfo Tryd.prog 79 = some (false, 1) := by kernel_rfl
@[go_sem] theorem by79 : byteTy Tryd.prog 79 = false := by kernel_rfl
@[go_sem] theorem cc79 : Program.concrete Tryd.prog 79 = true := by kernel_rfl
@[go_sem] theorem st79 : strTy Tryd.prog 79 = false := by kernel_rfl
@[go_sem] theorem nk79 : nilKind Tryd.prog 79 = 3 := by kernel_rfl
@[go_sem] theorem zt79 : ztree Tryd.prog 79 = some (.lit .nilFunc) := by kernel_rfl
@[go_sem] theorem ty80 : tyInfo Tryd.prog 80 = some (false, 1) := by kernel_rfl
@[go_sem] theorem by80 : byteTy Tryd.prog 80 = false := by kernel_rfl
@[go_sem] theorem cc80 : Program.concrete Tryd.prog 80 = true := by kernel_rfl
@[go_sem] theorem st80 : strTy Tryd.prog 80 = false := by kernel_rfl
@[go_sem] theorem nk80 : nilKind Tryd.prog 80 = 3 := by kernel_rfl
@[go_sem] theorem zt80 : ztree Tryd.prog 80 = some (.lit .nilFunc) := by kernel_rfl
@[go_sem] theorem ty81 : tyInfo Tryd.prog 81 = some (false, 1) := by kernel_rfl
@[go_sem] theorem by81 : byteTy Tryd.prog 81 = false := by kernel_rfl
@[go_sem] theorem cc81 : Program.concrete Tryd.prog 81 = true := by kernel_rfl
@[go_sem] theorem st81 : strTy Tryd.prog 81 = false := by kernel_rfl
@[go_sem] theorem nk81 : nilKind Tryd.prog 81 = 3 := by kernel_rfl
@[go_sem] theorem zt81 : ztree Tryd.prog 81 = some (.lit .nilFunc) := by kernel_rfl
@[go_sem] theorem ty82 : tyInfo Tryd.prog 82 = some (false, 1) := by kernel_rfl
@[go_sem] theorem by82 : byteTy Tryd.prog 82 = false := by kernel_rfl
@[go_sem] theorem cc82 : Program.concrete Tryd.prog 82 = true := by kernel_rfl
@[go_sem] theorem st82 : strTy Tryd.prog 82 = false := by kernel_rfl
@[go_sem] theorem nk82 : nilKind Tryd.prog 82 = 3 := by kernel_rfl
@[go_sem] theorem zt82 : ztree Tryd.prog 82 = some (.lit .nilFunc) := by kernel_rfl
@[go_sem] theorem ty83 : tyInfo Tryd.prog 83 = some (false, 1) := by kernel_rfl
@[go_sem] theorem by83 : byteTy Tryd.prog 83 = false := by kernel_rfl
@[go_sem] theorem cc83 : Program.concrete Tryd.prog 83 = true := by kernel_rfl
@[go_sem] theorem st83 : strTy Tryd.prog 83 = false := by kernel_rfl
@[go_sem] theorem nk83 : nilKind Tryd.prog 83 = 3 := by kernel_rfl
@[go_sem] theorem zt83 : ztree Tryd.prog 83 = some (.lit .nilFunc) := by kernel_rfl
@[go_sem] theorem ty84 : tyInfo Tryd.prog 84 = some (false, 1) := by kernel_rfl
@[go_sem] theorem by84 : byteTy Tryd.prog 84 = false := by kernel_rfl
@[go_sem] theorem cc84 : Program.concrete Tryd.prog 84 = true := by kernel_rfl
@[go_sem] theorem st84 : strTy Tryd.prog 84 = false := by kernel_rfl
@[go_sem] theorem nk84 : nilKind Tryd.prog 84 = 3 := by kernel_rfl
@[go_sem] theorem zt84 : ztree Tryd.prog 84 = some (.lit .nilFunc) := by kernel_rfl
@[go_sem] theorem ty85 : tyInfo Tryd.prog 85 = some (false, 1) := by kernel_rfl
@[go_sem] theorem by85 : byteTy Tryd.prog 85 = false := by kernel_rfl
@[go_sem] theorem cc85 : Program.concrete Tryd.prog 85 = true := by kernel_rfl
@[go_sem] theorem st85 : strTy Tryd.prog 85 = false := by kernel_rfl
@[go_sem] theorem nk85 : nilKind Tryd.prog 85 = 3 := by kernel_rfl
@[go_sem] theorem zt85 : ztree Tryd.prog 85 = some (.lit .nilFunc) := by kernel_rfl
@[go_sem] theorem ty86 : tyInfo Tryd.prog 86 = some (true, 32) := by kernel_rfl
@[go_sem] theorem by86 : byteTy Tryd.prog 86 = false := by kernel_rfl
@[go_sem] theorem cc86 : Program.concrete Tryd.prog 86 = true := by kernel_rfl
@[go_sem] theorem st86 : strTy Tryd.prog 86 = false := by kernel_rfl
@[go_sem] theorem ar86 : arrInfo Tryd.prog 86 = some (32, 5, 1) := by kernel_rfl
@[go_sem] theorem sp86 : splaces Tryd.prog 86 = none := by kernel_rfl
@[go_sem] theorem zt86 : ztree Tryd.prog 86 = some (.agg ((List.replicate 32 (0 : UInt8)).map byteAV)) := by kernel_rfl
@[go_sem] theorem ty87 : tyInfo Tryd.prog 87 = some (true, 32) := by kernel_rfl
@[go_sem] theorem by87 : byteTy Tryd.prog 87 = false := by kernel_rfl
@[go_sem] theorem cc87 : Program.concrete Tryd.prog 87 = true := by kernel_rfl
@[go_sem] theorem eq87 : eqTop Tryd.prog 87 = some (.bytes 32) := by kernel_rfl
@[go_sem] theorem st87 : strTy Tryd.prog 87 = false := by kernel_rfl
@[go_sem] theorem ar87 : arrInfo Tryd.prog 87 = some (32, 5, 1) := by kernel_rfl
@[go_sem] theorem sp87 : splaces Tryd.prog 87 = none := by kernel_rfl
@[go_sem] theorem zt87 : ztree Tryd.prog 87 = some (.agg ((List.replicate 32 (0 : UInt8)).map byteAV)) := by kernel_rfl
@[go_sem] theorem ty88 : tyInfo Tryd.prog 88 = some (false, 1) := by kernel_rfl
@[go_sem] theorem by88 : byteTy Tryd.prog 88 = false := by kernel_rfl
@[go_sem] theorem cc88 : Program.concrete Tryd.prog 88 = true := by kernel_rfl
@[go_sem] theorem st88 : strTy Tryd.prog 88 = false := by kernel_rfl
@[go_sem] theorem nk88 : nilKind Tryd.prog 88 = 3 := by kernel_rfl
@[go_sem] theorem zt88 : ztree Tryd.prog 88 = some (.lit .nilFunc) := by kernel_rfl
@[go_sem] theorem ty89 : tyInfo Tryd.prog 89 = some (false, 1) := by kernel_rfl
@[go_sem] theorem it89 : intTy Tryd.prog 89 = some .u64 := by kernel_rfl
@[go_sem] theorem by89 : byteTy Tryd.prog 89 = false := by kernel_rfl
@[go_sem] theorem cc89 : Program.concrete Tryd.prog 89 = true := by kernel_rfl
@[go_sem] theorem st89 : strTy Tryd.prog 89 = false := by kernel_rfl
@[go_sem] theorem zt89 : ztree Tryd.prog 89 = some (.lit (.int .u64 0)) := by kernel_rfl
@[go_sem] theorem ty90 : tyInfo Tryd.prog 90 = some (false, 1) := by kernel_rfl
@[go_sem] theorem by90 : byteTy Tryd.prog 90 = false := by kernel_rfl
@[go_sem] theorem cc90 : Program.concrete Tryd.prog 90 = true := by kernel_rfl
@[go_sem] theorem st90 : strTy Tryd.prog 90 = false := by kernel_rfl
@[go_sem] theorem nk90 : nilKind Tryd.prog 90 = 3 := by kernel_rfl
@[go_sem] theorem zt90 : ztree Tryd.prog 90 = some (.lit .nilFunc) := by kernel_rfl
@[go_sem] theorem ty91 : tyInfo Tryd.prog 91 = some (false, 1) := by kernel_rfl
@[go_sem] theorem by91 : byteTy Tryd.prog 91 = false := by kernel_rfl
@[go_sem] theorem cc91 : Program.concrete Tryd.prog 91 = true := by kernel_rfl
@[go_sem] theorem st91 : strTy Tryd.prog 91 = false := by kernel_rfl
@[go_sem] theorem nk91 : nilKind Tryd.prog 91 = 3 := by kernel_rfl
@[go_sem] theorem zt91 : ztree Tryd.prog 91 = some (.lit .nilFunc) := by kernel_rfl
@[go_sem] theorem ty93 : tyInfo Tryd.prog 93 = some (false, 1) := by kernel_rfl
@[go_sem] theorem by93 : byteTy Tryd.prog 93 = false := by kernel_rfl
@[go_sem] theorem cc93 : Program.concrete Tryd.prog 93 = true := by kernel_rfl
@[go_sem] theorem st93 : strTy Tryd.prog 93 = false := by kernel_rfl
@[go_sem] theorem nk93 : nilKind Tryd.prog 93 = 3 := by kernel_rfl
@[go_sem] theorem zt93 : ztree Tryd.prog 93 = some (.lit .nilFunc) := by kernel_rfl
@[go_sem] theorem ty94 : tyInfo Tryd.prog 94 = some (false, 1) := by kernel_rfl
@[go_sem] theorem by94 : byteTy Tryd.prog 94 = false := by kernel_rfl
@[go_sem] theorem cc94 : Program.concrete Tryd.prog 94 = true := by kernel_rfl
@[go_sem] theorem st94 : strTy Tryd.prog 94 = false := by kernel_rfl
@[go_sem] theorem nk94 : nilKind Tryd.prog 94 = 3 := by kernel_rfl
@[go_sem] theorem zt94 : ztree Tryd.prog 94 = some (.lit .nilFunc) := by kernel_rfl
@[go_sem] theorem ty95 : tyInfo Tryd.prog 95 = some (false, 1) := by kernel_rfl
@[go_sem] theorem by95 : byteTy Tryd.prog 95 = false := by kernel_rfl
@[go_sem] theorem cc95 : Program.concrete Tryd.prog 95 = true := by kernel_rfl
@[go_sem] theorem st95 : strTy Tryd.prog 95 = false := by kernel_rfl
@[go_sem] theorem nk95 : nilKind Tryd.prog 95 = 3 := by kernel_rfl
@[go_sem] theorem zt95 : ztree Tryd.prog 95 = some (.lit .nilFunc) := by kernel_rfl
@[go_sem] theorem ty96 : tyInfo Tryd.prog 96 = some (false, 1) := by kernel_rfl
@[go_sem] theorem by96 : byteTy Tryd.prog 96 = false := by kernel_rfl
@[go_sem] theorem cc96 : Program.concrete Tryd.prog 96 = true := by kernel_rfl
@[go_sem] theorem st96 : strTy Tryd.prog 96 = false := by kernel_rfl
@[go_sem] theorem nk96 : nilKind Tryd.prog 96 = 3 := by kernel_rfl
@[go_sem] theorem zt96 : ztree Tryd.prog 96 = some (.lit .nilFunc) := by kernel_rfl
@[go_sem] theorem ty97 : tyInfo Tryd.prog 97 = some (false, 1) := by kernel_rfl
@[go_sem] theorem by97 : byteTy Tryd.prog 97 = false := by kernel_rfl
@[go_sem] theorem cc97 : Program.concrete Tryd.prog 97 = true := by kernel_rfl
@[go_sem] theorem st97 : strTy Tryd.prog 97 = false := by kernel_rfl
@[go_sem] theorem nk97 : nilKind Tryd.prog 97 = 2 := by kernel_rfl
@[go_sem] theorem zt97 : ztree Tryd.prog 97 = some (.lit (.pointer none)) := by kernel_rfl
@[go_sem] theorem ty98 : tyInfo Tryd.prog 98 = some (true, 2) := by kernel_rfl
@[go_sem] theorem by98 : byteTy Tryd.prog 98 = false := by kernel_rfl
@[go_sem] theorem cc98 : Program.concrete Tryd.prog 98 = true := by kernel_rfl
@[go_sem] theorem st98 : strTy Tryd.prog 98 = false := by kernel_rfl
@[go_sem] theorem zt98 : ztree Tryd.prog 98 = some (.agg [.nils, (.lit (.int .i64 0))]) := by kernel_rfl
@[go_sem] theorem sp98 : splaces Tryd.prog 98 = some [(0, 1), (1, 1)] := by kernel_rfl
@[go_sem] theorem fo98_0 : fieldOff Tryd.prog 98 0 = some 0 := by kernel_rfl
@[go_sem] theorem fo98_1 : fieldOff Tryd.prog 98 1 = some 1 := by kernel_rfl
@[go_sem] theorem ty99 : tyInfo Tryd.prog 99 = some (true, 2) := by kernel_rfl
@[go_sem] theorem by99 : byteTy Tryd.prog 99 = false := by kernel_rfl
@[go_sem] theorem cc99 : Program.concrete Tryd.prog 99 = true := by kernel_rfl
@[go_sem] theorem st99 : strTy Tryd.prog 99 = false := by kernel_rfl
@[go_sem] theorem zt99 : ztree Tryd.prog 99 = some (.agg [.nils, (.lit (.int .i64 0))]) := by kernel_rfl
@[go_sem] theorem sp99 : splaces Tryd.prog 99 = some [(0, 1), (1, 1)] := by kernel_rfl
@[go_sem] theorem fo99_0 : fieldOff Tryd.prog 99 0 = some 0 := by kernel_rfl
@[go_sem] theorem fo99_1 : fieldOff Tryd.prog 99 1 = some 1 := by kernel_rfl
@[go_sem] theorem ty100 : tyInfo Tryd.prog 100 = some (true, 3) := by kernel_rfl
@[go_sem] theorem by100 : byteTy Tryd.prog 100 = false := by kernel_rfl
@[go_sem] theorem cc100 : Program.concrete Tryd.prog 100 = true := by kernel_rfl
@[go_sem] theorem st100 : strTy Tryd.prog 100 = false := by kernel_rfl
@[go_sem] theorem zt100 : ztree Tryd.prog 100 = some (.agg [(.agg [.nils, (.lit (.int .i64 0))]), (.lit (.int .i64 0))]) := by kernel_rfl
@[go_sem] theorem sp100 : splaces Tryd.prog 100 = some [(0, 2), (2, 1)] := by kernel_rfl
@[go_sem] theorem fo100_0 : fieldOff Tryd.prog 100 0 = some 0 := by kernel_rfl
@[go_sem] theorem fo100_1 : fieldOff Tryd.prog 100 1 = some 2 := by kernel_rfl
@[go_sem] theorem ty101 : tyInfo Tryd.prog 101 = some (true, 3) := by kernel_rfl
@[go_sem] theorem by101 : byteTy Tryd.prog 101 = false := by kernel_rfl
@[go_sem] theorem cc101 : Program.concrete Tryd.prog 101 = true := by kernel_rfl
@[go_sem] theorem st101 : strTy Tryd.prog 101 = false := by kernel_rfl
@[go_sem] theorem zt101 : ztree Tryd.prog 101 = some (.agg [(.agg [.nils, (.lit (.int .i64 0))]), (.lit (.int .i64 0))]) := by kernel_rfl
@[go_sem] theorem sp101 : splaces Tryd.prog 101 = some [(0, 2), (2, 1)] := by kernel_rfl
@[go_sem] theorem fo101_0 : fieldOff Tryd.prog 101 0 = some 0 := by kernel_rfl
@[go_sem] theorem fo101_1 : fieldOff Tryd.prog 101 1 = some 2 := by kernel_rfl
@[go_sem] theorem ty102 : tyInfo Tryd.prog 102 = some (false, 1) := by kernel_rfl
@[go_sem] theorem by102 : byteTy Tryd.prog 102 = false := by kernel_rfl
@[go_sem] theorem cc102 : Program.concrete Tryd.prog 102 = true := by kernel_rfl
@[go_sem] theorem st102 : strTy Tryd.prog 102 = false := by kernel_rfl
@[go_sem] theorem nk102 : nilKind Tryd.prog 102 = 3 := by kernel_rfl
@[go_sem] theorem zt102 : ztree Tryd.prog 102 = some (.lit .nilFunc) := by kernel_rfl
@[go_sem] theorem ty103 : tyInfo Tryd.prog 103 = some (false, 1) := by kernel_rfl
@[go_sem] theorem by103 : byteTy Tryd.prog 103 = false := by kernel_rfl
@[go_sem] theorem cc103 : Program.concrete Tryd.prog 103 = true := by kernel_rfl
@[go_sem] theorem st103 : strTy Tryd.prog 103 = false := by kernel_rfl
@[go_sem] theorem nk103 : nilKind Tryd.prog 103 = 3 := by kernel_rfl
@[go_sem] theorem zt103 : ztree Tryd.prog 103 = some (.lit .nilFunc) := by kernel_rfl
@[go_sem] theorem ty104 : tyInfo Tryd.prog 104 = some (false, 1) := by kernel_rfl
@[go_sem] theorem by104 : byteTy Tryd.prog 104 = false := by kernel_rfl
@[go_sem] theorem cc104 : Program.concrete Tryd.prog 104 = true := by kernel_rfl
@[go_sem] theorem st104 : strTy Tryd.prog 104 = false := by kernel_rfl
@[go_sem] theorem nk104 : nilKind Tryd.prog 104 = 3 := by kernel_rfl
@[go_sem] theorem zt104 : ztree Tryd.prog 104 = some (.lit .nilFunc) := by kernel_rfl
@[go_sem] theorem ty105 : tyInfo Tryd.prog 105 = some (false, 1) := by kernel_rfl
@[go_sem] theorem by105 : byteTy Tryd.prog 105 = false := by kernel_rfl
@[go_sem] theorem cc105 : Program.concrete Tryd.prog 105 = true := by kernel_rfl
@[go_sem] theorem st105 : strTy Tryd.prog 105 = false := by kernel_rfl
@[go_sem] theorem nk105 : nilKind Tryd.prog 105 = 2 := by kernel_rfl
@[go_sem] theorem zt105 : ztree Tryd.prog 105 = some (.lit (.pointer none)) := by kernel_rfl
@[go_sem] theorem ty106 : tyInfo Tryd.prog 106 = some (true, 3) := by kernel_rfl
@[go_sem] theorem by106 : byteTy Tryd.prog 106 = false := by kernel_rfl
@[go_sem] theorem cc106 : Program.concrete Tryd.prog 106 = true := by kernel_rfl
@[go_sem] theorem st106 : strTy Tryd.prog 106 = false := by kernel_rfl
@[go_sem] theorem zt106 : ztree Tryd.prog 106 = some (.agg [.nils, (.lit (.int .i64 0)), (.lit (.int .i64 0))]) := by kernel_rfl
@[go_sem] theorem sp106 : splaces Tryd.prog 106 = some [(0, 1), (1, 1), (2, 1)] := by kernel_rfl
@[go_sem] theorem fo106_0 : fieldOff Tryd.prog 106 0 = some 0 := by kernel_rfl
@[go_sem] theorem fo106_1 : fieldOff Tryd.prog 106 1 = some 1 := by kernel_rfl
@[go_sem] theorem fo106_2 : fieldOff Tryd.prog 106 2 = some 2 := by kernel_rfl
@[go_sem] theorem ty107 : tyInfo Tryd.prog 107 = some (true, 3) := by kernel_rfl
@[go_sem] theorem by107 : byteTy Tryd.prog 107 = false := by kernel_rfl
@[go_sem] theorem cc107 : Program.concrete Tryd.prog 107 = true := by kernel_rfl
@[go_sem] theorem st107 : strTy Tryd.prog 107 = false := by kernel_rfl
@[go_sem] theorem zt107 : ztree Tryd.prog 107 = some (.agg [.nils, (.lit (.int .i64 0)), (.lit (.int .i64 0))]) := by kernel_rfl
@[go_sem] theorem sp107 : splaces Tryd.prog 107 = some [(0, 1), (1, 1), (2, 1)] := by kernel_rfl
@[go_sem] theorem fo107_0 : fieldOff Tryd.prog 107 0 = some 0 := by kernel_rfl
@[go_sem] theorem fo107_1 : fieldOff Tryd.prog 107 1 = some 1 := by kernel_rfl
@[go_sem] theorem fo107_2 : fieldOff Tryd.prog 107 2 = some 2 := by kernel_rfl
@[go_sem] theorem ty108 : tyInfo Tryd.prog 108 = some (false, 1) := by kernel_rfl
@[go_sem] theorem by108 : byteTy Tryd.prog 108 = false := by kernel_rfl
@[go_sem] theorem cc108 : Program.concrete Tryd.prog 108 = true := by kernel_rfl
@[go_sem] theorem st108 : strTy Tryd.prog 108 = false := by kernel_rfl
@[go_sem] theorem nk108 : nilKind Tryd.prog 108 = 3 := by kernel_rfl
@[go_sem] theorem zt108 : ztree Tryd.prog 108 = some (.lit .nilFunc) := by kernel_rfl
@[go_sem] theorem ty109 : tyInfo Tryd.prog 109 = some (false, 1) := by kernel_rfl
@[go_sem] theorem by109 : byteTy Tryd.prog 109 = false := by kernel_rfl
@[go_sem] theorem cc109 : Program.concrete Tryd.prog 109 = true := by kernel_rfl
@[go_sem] theorem st109 : strTy Tryd.prog 109 = false := by kernel_rfl
@[go_sem] theorem nk109 : nilKind Tryd.prog 109 = 3 := by kernel_rfl
@[go_sem] theorem zt109 : ztree Tryd.prog 109 = some (.lit .nilFunc) := by kernel_rfl
@[go_sem] theorem ty110 : tyInfo Tryd.prog 110 = some (false, 1) := by kernel_rfl
@[go_sem] theorem by110 : byteTy Tryd.prog 110 = false := by kernel_rfl
@[go_sem] theorem cc110 : Program.concrete Tryd.prog 110 = true := by kernel_rfl
@[go_sem] theorem st110 : strTy Tryd.prog 110 = false := by kernel_rfl
@[go_sem] theorem nk110 : nilKind Tryd.prog 110 = 3 := by kernel_rfl
@[go_sem] theorem zt110 : ztree Tryd.prog 110 = some (.lit .nilFunc) := by kernel_rfl
@[go_sem] theorem ty111 : tyInfo Tryd.prog 111 = some (false, 1) := by kernel_rfl
@[go_sem] theorem by111 : byteTy Tryd.prog 111 = false := by kernel_rfl
@[go_sem] theorem cc111 : Program.concrete Tryd.prog 111 = true := by kernel_rfl
@[go_sem] theorem st111 : strTy Tryd.prog 111 = false := by kernel_rfl
@[go_sem] theorem nk111 : nilKind Tryd.prog 111 = 3 := by kernel_rfl
@[go_sem] theorem zt111 : ztree Tryd.prog 111 = some (.lit .nilFunc) := by kernel_rfl
@[go_sem] theorem ty112 : tyInfo Tryd.prog 112 = some (true, 8) := by kernel_rfl
@[go_sem] theorem by112 : byteTy Tryd.prog 112 = false := by kernel_rfl
@[go_sem] theorem cc112 : Program.concrete Tryd.prog 112 = true := by kernel_rfl
@[go_sem] theorem st112 : strTy Tryd.prog 112 = false := by kernel_rfl
@[go_sem] theorem ar112 : arrInfo Tryd.prog 112 = some (8, 3, 1) := by kernel_rfl
@[go_sem] theorem sp112 : splaces Tryd.prog 112 = none := by kernel_rfl
@[go_sem] theorem zt112 : ztree Tryd.prog 112 = some (.agg (List.replicate 8 (.lit (.int .i64 0)))) := by kernel_rfl
@[go_sem] theorem ty113 : tyInfo Tryd.prog 113 = some (false, 1) := by kernel_rfl
@[go_sem] theorem by113 : byteTy Tryd.prog 113 = false := by kernel_rfl
@[go_sem] theorem cc113 : Program.concrete Tryd.prog 113 = true := by kernel_rfl
@[go_sem] theorem st113 : strTy Tryd.prog 113 = false := by kernel_rfl
@[go_sem] theorem nk113 : nilKind Tryd.prog 113 = 3 := by kernel_rfl
@[go_sem] theorem zt113 : ztree Tryd.prog 113 = some (.lit .nilFunc) := by kernel_rfl
@[go_sem] theorem ty114 : tyInfo Tryd.prog 114 = some (false, 1) := by kernel_rfl
@[go_sem] theorem by114 : byteTy Tryd.prog 114 = false := by kernel_rfl
@[go_sem] theorem cc114 : Program.concrete Tryd.prog 114 = true := by kernel_rfl
@[go_sem] theorem st114 : strTy Tryd.prog 114 = false := by kernel_rfl
@[go_sem] theorem nk114 : nilKind Tryd.prog 114 = 3 := by kernel_rfl
@[go_sem] theorem zt114 : ztree Tryd.prog 114 = some (.lit .nilFunc) := by kernel_rfl
@[go_sem] theorem ty115 : tyInfo Tryd.prog 115 = some (false, 1) := by kernel_rfl
@[go_sem] theorem it115 : intTy Tryd.prog 115 = some .u32 := by kernel_rfl
@[go_sem] theorem by115 : byteTy Tryd.prog 115 = false := by kernel_rfl
@[go_sem] theorem cc115 : Program.concrete Tryd.prog 115 = true := by kernel_rfl
@[go_sem] theorem st115 : strTy Tryd.prog 115 = false := by kernel_rfl
@[go_sem] theorem zt115 : ztree Tryd.prog 115 = some (.lit (.int .u32 0)) := by kernel_rfl
@[go_sem] theorem ty116 : tyInfo Tryd.prog 116 = some (true, 8) := by kernel_rfl
@[go_sem] theorem by116 : byteTy Tryd.prog 116 = false := by kernel_rfl
@[go_sem] theorem cc116 : Program.concrete Tryd.prog 116 = true := by kernel_rfl
@[go_sem] theorem st116 : strTy Tryd.prog 116 = false := by kernel_rfl
@[go_sem] theorem ar116 : arrInfo Tryd.prog 116 = some (8, 115, 1) := by kernel_rfl
@[go_sem] theorem sp116 : splaces Tryd.prog 116 = none := by kernel_rfl
@[go_sem] theorem zt116 : ztree Tryd.prog 116 = some (.agg (List.replicate 8 (.lit (.int .u32 0)))) := by kernel_rfl
@[go_sem] theorem ty117 : tyInfo Tryd.prog 117 = some (true, 10) := by kernel_rfl
@[go_sem] theorem by117 : byteTy Tryd.prog 117 = false := by kernel_rfl
@[go_sem] theorem cc117 : Program.concrete Tryd.prog 117 = true := by kernel_rfl
@[go_sem] theorem st117 : strTy Tryd.prog 117 = false := by kernel_rfl
@[go_sem] theorem zt117 : ztree Tryd.prog 117 = some (.agg [(.agg (List.replicate 8 (.lit (.int .u32 0)))), .nils, (.lit (.int .i64 0))]) := by kernel_rfl
@[go_sem] theorem sp117 : splaces Tryd.prog 117 = some [(0, 8), (8, 1), (9, 1)] := by kernel_rfl
@[go_sem] theorem fo117_0 : fieldOff Tryd.prog 117 0 = some 0 := by kernel_rfl
@[go_sem] theorem fo117_1 : fieldOff Tryd.prog 117 1 = some 8 := by kernel_rfl
@[go_sem] theorem fo117_2 : fieldOff Tryd.prog 117 2 = some 9 := by kernel_rfl
@[go_sem] theorem ty118 : tyInfo Tryd.prog 118 = some (true, 10) := by kernel_rfl
@[go_sem] theorem by118 : byteTy Tryd.prog 118 = false := by kernel_rfl
@[go_sem] theorem cc118 : Program.concrete Tryd.prog 118 = true := by kernel_rfl
@[go_sem] theorem st118 : strTy Tryd.prog 118 = false := by kernel_rfl
@[go_sem] theorem zt118 : ztree Tryd.prog 118 = some (.agg [(.agg (List.replicate 8 (.lit (.int .u32 0)))), .nils, (.lit (.int .i64 0))]) := by kernel_rfl
@[go_sem] theorem sp118 : splaces Tryd.prog 118 = some [(0, 8), (8, 1), (9, 1)] := by kernel_rfl
@[go_sem] theorem fo118_0 : fieldOff Tryd.prog 118 0 = some 0 := by kernel_rfl
@[go_sem] theorem fo118_1 : fieldOff Tryd.prog 118 1 = some 8 := by kernel_rfl
@[go_sem] theorem fo118_2 : fieldOff Tryd.prog 118 2 = some 9 := by kernel_rfl
@[go_sem] theorem ty119 : tyInfo Tryd.prog 119 = some (false, 1) := by kernel_rfl
@[go_sem] theorem by119 : byteTy Tryd.prog 119 = false := by kernel_rfl
@[go_sem] theorem cc119 : Program.concrete Tryd.prog 119 = true := by kernel_rfl
@[go_sem] theorem st119 : strTy Tryd.prog 119 = false := by kernel_rfl
@[go_sem] theorem nk119 : nilKind Tryd.prog 119 = 3 := by kernel_rfl
@[go_sem] theorem zt119 : ztree Tryd.prog 119 = some (.lit .nilFunc) := by kernel_rfl
@[go_sem] theorem ty120 : tyInfo Tryd.prog 120 = some (false, 1) := by kernel_rfl
@[go_sem] theorem by120 : byteTy Tryd.prog 120 = false := by kernel_rfl
@[go_sem] theorem cc120 : Program.concrete Tryd.prog 120 = true := by kernel_rfl
@[go_sem] theorem st120 : strTy Tryd.prog 120 = false := by kernel_rfl
@[go_sem] theorem nk120 : nilKind Tryd.prog 120 = 3 := by kernel_rfl
@[go_sem] theorem zt120 : ztree Tryd.prog 120 = some (.lit .nilFunc) := by kernel_rfl
@[go_sem] theorem ty121 : tyInfo Tryd.prog 121 = some (false, 1) := by kernel_rfl
@[go_sem] theorem by121 : byteTy Tryd.prog 121 = false := by kernel_rfl
@[go_sem] theorem cc121 : Program.concrete Tryd.prog 121 = true := by kernel_rfl
@[go_sem] theorem st121 : strTy Tryd.prog 121 = false := by kernel_rfl
@[go_sem] theorem nk121 : nilKind Tryd.prog 121 = 3 := by kernel_rfl
@[go_sem] theorem zt121 : ztree Tryd.prog 121 = some (.lit .nilFunc) := by kernel_rfl
@[go_sem] theorem ty122 : tyInfo Tryd.prog 122 = some (false, 1) := by kernel_rfl
@[go_sem] theorem by122 : byteTy Tryd.prog 122 = false := by kernel_rfl
@[go_sem] theorem cc122 : Program.concrete Tryd.prog 122 = true := by kernel_rfl
@[go_sem] theorem st122 : strTy Tryd.prog 122 = false := by kernel_rfl
@[go_sem] theorem nk122 : nilKind Tryd.prog 122 = 3 := by kernel_rfl
@[go_sem] theorem zt122 : ztree Tryd.prog 122 = some (.lit .nilFunc) := by kernel_rfl
@[go_sem] theorem ty123 : tyInfo Tryd.prog 123 = some (false, 1) := by kernel_rfl
@[go_sem] theorem by123 : byteTy Tryd.prog 123 = false := by kernel_rfl
@[go_sem] theorem cc123 : Program.concrete Tryd.prog 123 = true := by kernel_rfl
@[go_sem] theorem st123 : strTy Tryd.prog 123 = false := by kernel_rfl
@[go_sem] theorem nk123 : nilKind Tryd.prog 123 = 3 := by kernel_rfl
@[go_sem] theorem zt123 : ztree Tryd.prog 123 = some (.lit .nilFunc) := by kernel_rfl
@[go_sem] theorem ty124 : tyInfo Tryd.prog 124 = some (false, 1) := by kernel_rfl
@[go_sem] theorem by124 : byteTy Tryd.prog 124 = false := by kernel_rfl
@[go_sem] theorem cc124 : Program.concrete Tryd.prog 124 = true := by kernel_rfl
@[go_sem] theorem st124 : strTy Tryd.prog 124 = false := by kernel_rfl
@[go_sem] theorem nk124 : nilKind Tryd.prog 124 = 3 := by kernel_rfl
@[go_sem] theorem zt124 : ztree Tryd.prog 124 = some (.lit .nilFunc) := by kernel_rfl
@[go_sem] theorem ty125 : tyInfo Tryd.prog 125 = some (false, 1) := by kernel_rfl
@[go_sem] theorem by125 : byteTy Tryd.prog 125 = false := by kernel_rfl
@[go_sem] theorem cc125 : Program.concrete Tryd.prog 125 = true := by kernel_rfl
@[go_sem] theorem st125 : strTy Tryd.prog 125 = false := by kernel_rfl
@[go_sem] theorem nk125 : nilKind Tryd.prog 125 = 3 := by kernel_rfl
@[go_sem] theorem zt125 : ztree Tryd.prog 125 = some (.lit .nilFunc) := by kernel_rfl
@[go_sem] theorem ty127 : tyInfo Tryd.prog 127 = some (false, 1) := by kernel_rfl
@[go_sem] theorem by127 : byteTy Tryd.prog 127 = false := by kernel_rfl
@[go_sem] theorem cc127 : Program.concrete Tryd.prog 127 = true := by kernel_rfl
@[go_sem] theorem st127 : strTy Tryd.prog 127 = false := by kernel_rfl
@[go_sem] theorem nk127 : nilKind Tryd.prog 127 = 3 := by kernel_rfl
@[go_sem] theorem zt127 : ztree Tryd.prog 127 = some (.lit .nilFunc) := by kernel_rfl
@[go_sem] theorem ty129 : tyInfo Tryd.prog 129 = some (false, 1) := by kernel_rfl
@[go_sem] theorem by129 : byteTy Tryd.prog 129 = false := by kernel_rfl
@[go_sem] theorem cc129 : Program.concrete Tryd.prog 129 = true := by kernel_rfl
@[go_sem] theorem st129 : strTy Tryd.prog 129 = false := by kernel_rfl
@[go_sem] theorem nk129 : nilKind Tryd.prog 129 = 3 := by kernel_rfl
@[go_sem] theorem zt129 : ztree Tryd.prog 129 = some (.lit .nilFunc) := by kernel_rfl
@[go_sem] theorem ty131 : tyInfo Tryd.prog 131 = some (false, 1) := by kernel_rfl
@[go_sem] theorem by131 : byteTy Tryd.prog 131 = false := by kernel_rfl
@[go_sem] theorem cc131 : Program.concrete Tryd.prog 131 = true := by kernel_rfl
@[go_sem] theorem st131 : strTy Tryd.prog 131 = false := by kernel_rfl
@[go_sem] theorem nk131 : nilKind Tryd.prog 131 = 3 := by kernel_rfl
@[go_sem] theorem zt131 : ztree Tryd.prog 131 = some (.lit .nilFunc) := by kernel_rfl
@[go_sem] theorem ty132 : tyInfo Tryd.prog 132 = some (false, 1) := by kernel_rfl
@[go_sem] theorem by132 : byteTy Tryd.prog 132 = false := by kernel_rfl
@[go_sem] theorem cc132 : Program.concrete Tryd.prog 132 = true := by kernel_rfl
@[go_sem] theorem st132 : strTy Tryd.prog 132 = false := by kernel_rfl
@[go_sem] theorem sl132 : sliceTy Tryd.prog 132 = some 9 := by kernel_rfl
@[go_sem] theorem si132 : sliceInfo Tryd.prog 132 = some (9, 1, 16, (.lit (.string ByteArray.empty))) := by kernel_rfl
@[go_sem] theorem nk132 : nilKind Tryd.prog 132 = 1 := by kernel_rfl
@[go_sem] theorem zt132 : ztree Tryd.prog 132 = some .nils := by kernel_rfl
@[go_sem] theorem ty133 : tyInfo Tryd.prog 133 = some (false, 1) := by kernel_rfl
@[go_sem] theorem by133 : byteTy Tryd.prog 133 = false := by kernel_rfl
@[go_sem] theorem cc133 : Program.concrete Tryd.prog 133 = true := by kernel_rfl
@[go_sem] theorem st133 : strTy Tryd.prog 133 = false := by kernel_rfl
@[go_sem] theorem nk133 : nilKind Tryd.prog 133 = 3 := by kernel_rfl
@[go_sem] theorem zt133 : ztree Tryd.prog 133 = some (.lit .nilFunc) := by kernel_rfl
@[go_sem] theorem ty134 : tyInfo Tryd.prog 134 = some (true, 64) := by kernel_rfl
@[go_sem] theorem by134 : byteTy Tryd.prog 134 = false := by kernel_rfl
@[go_sem] theorem cc134 : Program.concrete Tryd.prog 134 = true := by kernel_rfl
@[go_sem] theorem st134 : strTy Tryd.prog 134 = false := by kernel_rfl
@[go_sem] theorem ar134 : arrInfo Tryd.prog 134 = some (64, 115, 1) := by kernel_rfl
@[go_sem] theorem sp134 : splaces Tryd.prog 134 = none := by kernel_rfl
@[go_sem] theorem zt134 : ztree Tryd.prog 134 = some (.agg (List.replicate 64 (.lit (.int .u32 0)))) := by kernel_rfl
@[go_sem] theorem ty135 : tyInfo Tryd.prog 135 = some (false, 1) := by kernel_rfl
@[go_sem] theorem by135 : byteTy Tryd.prog 135 = false := by kernel_rfl
@[go_sem] theorem cc135 : Program.concrete Tryd.prog 135 = true := by kernel_rfl
@[go_sem] theorem st135 : strTy Tryd.prog 135 = false := by kernel_rfl
@[go_sem] theorem nk135 : nilKind Tryd.prog 135 = 3 := by kernel_rfl
@[go_sem] theorem zt135 : ztree Tryd.prog 135 = some (.lit .nilFunc) := by kernel_rfl
@[go_sem] theorem ty136 : tyInfo Tryd.prog 136 = some (false, 1) := by kernel_rfl
@[go_sem] theorem by136 : byteTy Tryd.prog 136 = false := by kernel_rfl
@[go_sem] theorem cc136 : Program.concrete Tryd.prog 136 = true := by kernel_rfl
@[go_sem] theorem st136 : strTy Tryd.prog 136 = false := by kernel_rfl
@[go_sem] theorem nk136 : nilKind Tryd.prog 136 = 3 := by kernel_rfl
@[go_sem] theorem zt136 : ztree Tryd.prog 136 = some (.lit .nilFunc) := by kernel_rfl
@[go_sem] theorem ty137 : tyInfo Tryd.prog 137 = some (false, 1) := by kernel_rfl
@[go_sem] theorem by137 : byteTy Tryd.prog 137 = false := by kernel_rfl
@[go_sem] theorem cc137 : Program.concrete Tryd.prog 137 = true := by kernel_rfl
@[go_sem] theorem st137 : strTy Tryd.prog 137 = false := by kernel_rfl
@[go_sem] theorem nk137 : nilKind Tryd.prog 137 = 2 := by kernel_rfl
@[go_sem] theorem zt137 : ztree Tryd.prog 137 = some (.lit (.pointer none)) := by kernel_rfl
@[go_sem] theorem ty138 : tyInfo Tryd.prog 138 = some (false, 1) := by kernel_rfl
@[go_sem] theorem by138 : byteTy Tryd.prog 138 = false := by kernel_rfl
@[go_sem] theorem cc138 : Program.concrete Tryd.prog 138 = true := by kernel_rfl
@[go_sem] theorem st138 : strTy Tryd.prog 138 = false := by kernel_rfl
@[go_sem] theorem nk138 : nilKind Tryd.prog 138 = 2 := by kernel_rfl
@[go_sem] theorem zt138 : ztree Tryd.prog 138 = some (.lit (.pointer none)) := by kernel_rfl
@[go_sem] theorem ty139 : tyInfo Tryd.prog 139 = some (true, 3) := by kernel_rfl
@[go_sem] theorem by139 : byteTy Tryd.prog 139 = false := by kernel_rfl
@[go_sem] theorem cc139 : Program.concrete Tryd.prog 139 = true := by kernel_rfl
@[go_sem] theorem st139 : strTy Tryd.prog 139 = false := by kernel_rfl
@[go_sem] theorem zt139 : ztree Tryd.prog 139 = some (.agg [.nils, (.lit (.int .i64 0)), (.lit (.int .i64 0))]) := by kernel_rfl
@[go_sem] theorem sp139 : splaces Tryd.prog 139 = some [(0, 1), (1, 1), (2, 1)] := by kernel_rfl
@[go_sem] theorem fo139_0 : fieldOff Tryd.prog 139 0 = some 0 := by kernel_rfl
@[go_sem] theorem fo139_1 : fieldOff Tryd.prog 139 1 = some 1 := by kernel_rfl
@[go_sem] theorem fo139_2 : fieldOff Tryd.prog 139 2 = some 2 := by kernel_rfl
@[go_sem] theorem ty140 : tyInfo Tryd.prog 140 = some (true, 3) := by kernel_rfl
@[go_sem] theorem by140 : byteTy Tryd.prog 140 = false := by kernel_rfl
@[go_sem] theorem cc140 : Program.concrete Tryd.prog 140 = true := by kernel_rfl
@[go_sem] theorem st140 : strTy Tryd.prog 140 = false := by kernel_rfl
@[go_sem] theorem zt140 : ztree Tryd.prog 140 = some (.agg [.nils, (.lit (.int .i64 0)), (.lit (.int .i64 0))]) := by kernel_rfl
@[go_sem] theorem sp140 : splaces Tryd.prog 140 = some [(0, 1), (1, 1), (2, 1)] := by kernel_rfl
@[go_sem] theorem fo140_0 : fieldOff Tryd.prog 140 0 = some 0 := by kernel_rfl
@[go_sem] theorem fo140_1 : fieldOff Tryd.prog 140 1 = some 1 := by kernel_rfl
@[go_sem] theorem fo140_2 : fieldOff Tryd.prog 140 2 = some 2 := by kernel_rfl
@[go_sem] theorem ty141 : tyInfo Tryd.prog 141 = some (false, 1) := by kernel_rfl
@[go_sem] theorem by141 : byteTy Tryd.prog 141 = false := by kernel_rfl
@[go_sem] theorem cc141 : Program.concrete Tryd.prog 141 = true := by kernel_rfl
@[go_sem] theorem st141 : strTy Tryd.prog 141 = false := by kernel_rfl
@[go_sem] theorem nk141 : nilKind Tryd.prog 141 = 3 := by kernel_rfl
@[go_sem] theorem zt141 : ztree Tryd.prog 141 = some (.lit .nilFunc) := by kernel_rfl
@[go_sem] theorem ty142 : tyInfo Tryd.prog 142 = some (false, 1) := by kernel_rfl
@[go_sem] theorem by142 : byteTy Tryd.prog 142 = false := by kernel_rfl
@[go_sem] theorem cc142 : Program.concrete Tryd.prog 142 = true := by kernel_rfl
@[go_sem] theorem st142 : strTy Tryd.prog 142 = false := by kernel_rfl
@[go_sem] theorem nk142 : nilKind Tryd.prog 142 = 3 := by kernel_rfl
@[go_sem] theorem zt142 : ztree Tryd.prog 142 = some (.lit .nilFunc) := by kernel_rfl
@[go_sem] theorem ty143 : tyInfo Tryd.prog 143 = some (false, 1) := by kernel_rfl
@[go_sem] theorem by143 : byteTy Tryd.prog 143 = false := by kernel_rfl
@[go_sem] theorem cc143 : Program.concrete Tryd.prog 143 = true := by kernel_rfl
@[go_sem] theorem st143 : strTy Tryd.prog 143 = false := by kernel_rfl
@[go_sem] theorem nk143 : nilKind Tryd.prog 143 = 3 := by kernel_rfl
@[go_sem] theorem zt143 : ztree Tryd.prog 143 = some (.lit .nilFunc) := by kernel_rfl
@[go_sem] theorem ty144 : tyInfo Tryd.prog 144 = some (false, 1) := by kernel_rfl
@[go_sem] theorem by144 : byteTy Tryd.prog 144 = false := by kernel_rfl
@[go_sem] theorem cc144 : Program.concrete Tryd.prog 144 = true := by kernel_rfl
@[go_sem] theorem st144 : strTy Tryd.prog 144 = false := by kernel_rfl
@[go_sem] theorem nk144 : nilKind Tryd.prog 144 = 3 := by kernel_rfl
@[go_sem] theorem zt144 : ztree Tryd.prog 144 = some (.lit .nilFunc) := by kernel_rfl
@[go_sem] theorem ty153 : tyInfo Tryd.prog 153 = some (false, 1) := by kernel_rfl
@[go_sem] theorem by153 : byteTy Tryd.prog 153 = false := by kernel_rfl
@[go_sem] theorem cc153 : Program.concrete Tryd.prog 153 = true := by kernel_rfl
@[go_sem] theorem st153 : strTy Tryd.prog 153 = false := by kernel_rfl
@[go_sem] theorem nk153 : nilKind Tryd.prog 153 = 2 := by kernel_rfl
@[go_sem] theorem zt153 : ztree Tryd.prog 153 = some (.lit (.pointer none)) := by kernel_rfl
end Go.Proofs.YtaelnglalpiemaaDoor

/- The deck of numbers that the laws draw from. -/
namespace Go.Proofs.YtaelnglalpiemaaDoor
open Go.Ab
attribute [local irreducible] Go.Ab.tyAV Go.Ab.aw Go.Ab.aops Go.Ab.kReg Go.Ab.aThen Go.Ab.aBlk Go.Ab.acond Go.Ab.aguard Go.Ab.astep Go.Ab.AStepX Go.Ab.aRet

theorem within_eq (x n : Int) (h : 0 < n) : (x.tmod n + n).tmod n = x % n := by
  have h2 : -n < x.tmod n := by have := Int.lt_tmod_of_pos x h; omega
  rw [Int.tmod_eq_emod_of_nonneg (by omega), Int.add_emod_right, Int.tmod_eq_emod]
  split
  · rename_i hh; simp
  · rw [Int.sub_emod]; have : n ∣ n.natAbs := by rw [Int.dvd_natAbs]; exact Int.dvd_refl n
    simp [Int.emod_emod_of_dvd, Int.emod_eq_zero_of_dvd this]

theorem Within_spec (x n : Int) (h : 0 < n) (hn : n ≤ 1000000000000000000) (k : Nat) :
    ACall Tryd.prog 28 [.lit (.int .i64 x), .lit (.int .i64 n)] k [] (.lit (.int .i64 (x % n))) [] := by
  have h0 : n ≠ 0 := by omega
  have h1 : x.tmod n < n := Int.tmod_lt_of_pos x h
  have h2 : -n < x.tmod n := by have := Int.lt_tmod_of_pos x h; omega
  refine ACall.of_body mixed Tryd.func28 rfl (by kernel_rfl) Tryd.ntmps28 (by kernel_rfl) rfl (by simp) (by simp) (by simp) fun σ N hp hpn hk hkn hfree => ?_
  refine Wk ?_
  exact go_result (by simp (disch := omega) [go_sem, *, -List.reduceReplicate]; rfl) (by simp only [AV.ren, within_eq x n h]) (fun id _ => rfl)

def deckBox (l : List Int) (i : Nat) : Ent := .box 78 (.agg [.slice none (l.map intAV), .lit (.int .i64 i)])
@[simp, go_sem] theorem deckBox_ne (l : List Int) (i : Nat) : (deckBox l i = .none) = False := by simp [deckBox]
@[go_sem] theorem deckBox_ren (l : List Int) (i : Nat) (f : Nat → Option Nat) : (deckBox l i).ren f = deckBox l i := by
  simp only [deckBox, ent_ren_box, AV.ren, AV.renl, renl_ints, Option.bind_none]
/-- A deck as it may be. -/
def Dk (l : List Int) (i : Nat) : Prop := l.length ≤ 9223372036854775807 ∧ i ≤ l.length

theorem New_spec (l : List Int) (k : Nat) : ACall Tryd.prog 12 [.slice none (l.map intAV)] k [] (.ptr k [] 0) [(k, deckBox l 0)] := by
  unfold deckBox
  refine ACall.of_body mixed Tryd.func12 rfl (by kernel_rfl) Tryd.ntmps12 (by kernel_rfl) rfl (by simp) (by simp) (by simp) fun σ N hp hpn hk hkn hfree => ?_
  refine Wk ?_
  refine go_result1 (r0 := N+3) (by simp (disch := omega) [go_sem, *, -List.reduceReplicate]; rfl) (by omega) (by simp (disch := omega) [go_sem]; try rfl) (fun id hid => by simp (disch := omega) only [upd_ne, wr_cons, wr_nil]; try exact hlow id hid) (by simp (disch := omega) only [upd_same, upd_ne]; rfl) (by simp (disch := omega) [go_sem])

theorem Next_none (l : List Int) (i : Nat) (n : Int) (hi : l.length ≤ i) (hb : i ≤ 9223372036854775807) (d k : Nat) :
    ACall Tryd.prog 50 [.ptr d [] 0, .lit (.int .i64 n)] k [(d, deckBox l i)] (.lit (.int .i64 0)) [(d, deckBox l i)] := by
  unfold deckBox
  refine ACall.of_body mixed Tryd.func50 rfl (by kernel_rfl) Tryd.ntmps50 (by kernel_rfl) rfl (by simp) (by simp) (by simp) fun σ N hp hpn hk hkn hfree => ?_
  have hd := hp _ (List.mem_singleton.2 rfl)
  have hdn := hpn _ (List.mem_singleton.2 rfl)
  simp only at hd hdn
  clear hp hpn
  refine Wk ?_
  refine go_resultW [(d, .box 78 (.agg [.slice none (l.map intAV), .lit (.int .i64 i)]))] (by simp (disch := omega) [go_sem, *, -List.reduceReplicate]; rfl) (by first | rfl | (simp (disch := omega) [go_sem]; done) | (simp (disch := omega) [go_sem, *]; done) | simp (disch := omega) [go_sem]) (fun id hid => by simp only [wr_cons, wr_nil]; try (by_cases hdd : id = d; (· (subst hdd; simp (disch := omega) [go_sem, *])); (· (simp (disch := omega) only [upd_ne]; try (first | exact hlow id hid hdd | exact hlow id hid))))) (by simp) (by simp (disch := omega) [go_sem, *])

theorem Next_some (l : List Int) (i : Nat) (n : Int) (hi : i < l.length) (hb : l.length ≤ 9223372036854775807) (h0 : 0 < n) (hn : n ≤ 1000000000000000000) (d k : Nat) :
    ACall Tryd.prog 50 [.ptr d [] 0, .lit (.int .i64 n)] k [(d, deckBox l i)] (.lit (.int .i64 (l[i] % n))) [(d, deckBox l (i + 1))] := by
  obtain ⟨x, hx⟩ : ∃ x, l[i] = x := ⟨_, rfl⟩
  have c1 := Within_spec x n h0 hn
  have hxx : intAV x = .lit (.int .i64 x) := rfl
  rw [hx]
  unfold deckBox
  refine ACall.of_body mixed Tryd.func50 rfl (by kernel_rfl) Tryd.ntmps50 (by kernel_rfl) rfl (by simp) (by simp) (by simp) fun σ N hp hpn hk hkn hfree => ?_
  have hd := hp _ (List.mem_singleton.2 rfl)
  have hdn := hpn _ (List.mem_singleton.2 rfl)
  simp only at hd hdn
  clear hp hpn
  have hcs := And.intro c1 True.intro
  refine Wk ?_
  refine go_resultW [(d, .box 78 (.agg [.slice none (l.map intAV), .lit (.int .i64 ((i : Int) + 1))]))] (by simp (disch := omega) [go_sem, *, -List.reduceReplicate]; rfl) (by first | rfl | (simp (disch := omega) [go_sem]; done) | (simp (disch := omega) [go_sem, *]; done) | simp (disch := omega) [go_sem]) (fun id hid => by simp only [wr_cons, wr_nil]; try (by_cases hdd : id = d; (· (subst hdd; simp (disch := omega) [go_sem, *])); (· (simp (disch := omega) only [upd_ne]; try (first | exact hlow id hid hdd | exact hlow id hid))))) (by simp) (by simp (disch := omega) [go_sem, *])

def nextD (l : List Int) (i : Nat) (n : Nat) : Nat × Nat := if h : i < l.length then ((l[i] % (n : Int)).toNat, i + 1) else (0, i)
theorem nextD_lt (l : List Int) (i : Nat) (n : Nat) (h : 0 < n) : (nextD l i n).1 < n := by
  unfold nextD
  split
  · have := Int.emod_nonneg l[i] (show (n : Int) ≠ 0 by omega)
    have := Int.emod_lt_of_pos l[i] (show (0 : Int) < (n : Int) by omega)
    simp only; omega
  · exact h
theorem nextD_dk {l : List Int} {i : Nat} (n : Nat) (h : Dk l i) : Dk l (nextD l i n).2 := by
  unfold nextD Dk at *
  split
  · exact ⟨h.1, by simp only; omega⟩
  · exact h
theorem Next_spec (l : List Int) (i : Nat) (n : Nat) (h : Dk l i) (h0 : 0 < n) (hn : n ≤ 1000000000000000000) (d k : Nat) :
    ACall Tryd.prog 50 [.ptr d [] 0, .lit (.int .i64 n)] k [(d, deckBox l i)] (.lit (.int .i64 (nextD l i n).1)) [(d, deckBox l (nextD l i n).2)] := by
  unfold nextD
  split
  · rename_i hi
    have := Next_some l i n hi h.1 (by omega) (by omega) d k
    have e : ((l[i] % (n : Int)).toNat : Int) = l[i] % (n : Int) := Int.toNat_of_nonneg (Int.emod_nonneg _ (by omega))
    simp only [e]; exact this
  · rename_i hi; exact Next_none l i n (by omega) (by have := h.1; have := h.2; omega) d k
/-- The next number, when no more than its bound is asked. -/
theorem Next_ex (l : List Int) (i : Nat) (n : Nat) (h : Dk l i) (h0 : 0 < n) (hn : n ≤ 1000000000000000000) :
    ∃ x j : Nat, x < n ∧ Dk l j ∧ ∀ d k, ACall Tryd.prog 50 [.ptr d [] 0, .lit (.int .i64 n)] k [(d, deckBox l i)] (.lit (.int .i64 x)) [(d, deckBox l j)] :=
  ⟨_, _, nextD_lt l i n h0, nextD_dk n h, Next_spec l i n h h0 hn⟩
end Go.Proofs.YtaelnglalpiemaaDoor

/- The deck's Range. -/
namespace Go.Proofs.YtaelnglalpiemaaDoor
open Go.Ab
attribute [local irreducible] Go.Ab.tyAV Go.Ab.aw Go.Ab.aops Go.Ab.kReg Go.Ab.aThen Go.Ab.aBlk Go.Ab.acond Go.Ab.aguard Go.Ab.astep Go.Ab.AStepX Go.Ab.aRet

def rangeD (l : List Int) (i lo n : Nat) : Nat × Nat := (lo + (nextD l i n).1, (nextD l i n).2)
theorem Range_spec (l : List Int) (i : Nat) (lo hi n : Nat) (h : Dk l i) (hlo : lo ≤ 1000000000) (hhi : hi ≤ 1000000000) (hn : hi + 1 = lo + n) (h0 : 0 < n) (d k : Nat) :
    ACall Tryd.prog 81 [.ptr d [] 0, .lit (.int .i64 lo), .lit (.int .i64 hi)] k [(d, deckBox l i)] (.lit (.int .i64 (rangeD l i lo n).1)) [(d, deckBox l (rangeD l i lo n).2)] := by
  have c1 := Next_spec l i n h h0 (by omega)
  have b1 := nextD_lt l i n h0
  unfold rangeD
  generalize nextD l i n = X at *
  obtain ⟨x, j⟩ := X
  simp only at c1 b1 ⊢
  have hx : (hi : Int) - lo + 1 = n := by omega
  have hc : ((lo + x : Nat) : Int) = (lo : Int) + x := by omega
  rw [hc]
  clear hc
  refine ACall.of_body mixed Tryd.func81 rfl (by kernel_rfl) Tryd.ntmps81 (by kernel_rfl) rfl (by simp) (by simp) (by simp) fun σ N hp hpn hk hkn hfree => ?_
  have hd := hp _ (List.mem_singleton.2 rfl); have hdn := hpn _ (List.mem_singleton.2 rfl); simp only at hd hdn; clear hp hpn
  have hcs := And.intro (c1 d) True.intro
  clear c1
  refine Wk ?_
  refine go_resultW [(d, deckBox l j)] (by simp (disch := omega) [go_sem, *, -List.reduceReplicate]; rfl) (by first | rfl | (simp (disch := omega) [go_sem]; done) | (simp (disch := omega) [go_sem, *]; done) | simp (disch := omega) [go_sem]) (fun id hid => by simp only [wr_cons, wr_nil]; try (by_cases hdd : id = d; (· (subst hdd; simp (disch := omega) [go_sem, *])); (· (simp (disch := omega) only [upd_ne]; try (first | exact hlow id hid hdd | exact hlow id hid))))) (by simp) (by simp (disch := omega) [go_sem, *])
theorem rangeD_dk {l : List Int} {i lo n : Nat} (h : Dk l i) : Dk l (rangeD l i lo n).2 := nextD_dk n h
end Go.Proofs.YtaelnglalpiemaaDoor

/- Shared: comparing bytes, arguments cut at a length. -/
namespace Go.Proofs.YtaelnglalpiemaaDoor
open Go.Ab
attribute [local irreducible] Go.Ab.tyAV Go.Ab.aw Go.Ab.aops Go.Ab.kReg Go.Ab.aThen Go.Ab.aBlk Go.Ab.acond Go.Ab.aguard Go.Ab.astep Go.Ab.AStepX Go.Ab.aRet

theorem Same_spec (cs bs : List UInt8) (ha : cs.length ≤ 100000000) (k : Nat) : ACall Tryd.prog 25 [.slice none (cs.map byteAV), .slice none (bs.map byteAV)] k [] (.lit (.bool (decide (cs = bs)))) [] := by
  by_cases hl : cs.length = bs.length
  · refine ACall.of_body mixed Tryd.func25 rfl (by kernel_rfl) Tryd.ntmps25 (by kernel_rfl) rfl (by simp) (by simp) (by simp) fun σ N hp hpn hk hkn hfree => ?_
    refine Wk ?_
    refine go_loop (aloop mixed (by kernel_rfl) (fun c => ∃ (u : Nat), c.s 0 = .slice none (cs.map byteAV) ∧ c.s 1 = .slice none (bs.map byteAV) ∧ c.s 5 = .lit (.int .i64 u) ∧ (∀ id, id < N → c.σ id = σ id) ∧ N ≤ c.n ∧ u ≤ cs.length ∧ cs.take u = bs.take u)
      (fun c => match c.s 5 with | .lit (.int _ m) => cs.length - m.toNat | _ => 0) ⟨0, by simp (disch := omega) [go_sem, *, -List.reduceReplicate], by simp (disch := omega) [go_sem, *, -List.reduceReplicate], by simp (disch := omega) [go_sem, *, -List.reduceReplicate], (fun id hid => by simp (disch := omega) only [upd_ne, wr_cons, wr_nil]; try exact hlow id hid), by simp only; omega, by omega, by simp⟩ ?_)
    rintro ⟨s, σ', n'⟩ ⟨u, h0, h1, h5, hlow, hn', hu, heq⟩
    simp only at h0 h1 h5 hlow hn'
    by_cases hul : u = cs.length
    · have hr : decide (cs = bs) = true := by
        rw [hul, List.take_length, hl, List.take_length] at heq
        simp [heq]
      rw [hr]
      exact W0
    · have hua : u < cs.length := by omega
      have hub : u < bs.length := by omega
      obtain ⟨x, hx⟩ : ∃ x, cs[u] = x := ⟨_, rfl⟩
      obtain ⟨y, hy⟩ : ∃ y, bs[u] = y := ⟨_, rfl⟩
      have hxx : byteAV x = .lit (.int .u8 x.toNat) := rfl
      have hyy : byteAV y = .lit (.int .u8 y.toNat) := rfl
      refine Wk ?_
      by_cases hxy : x = y
      · subst hxy
        refine Wk ?_
        refine ⟨⟨u + 1, by simp (disch := omega) [go_sem, *, -List.reduceReplicate], by simp (disch := omega) [go_sem, *, -List.reduceReplicate], by simp (disch := omega) [go_sem, *, -List.reduceReplicate], (fun id hid => by simp (disch := omega) only [upd_ne, wr_cons, wr_nil]; try exact hlow id hid), by simp only; omega, by omega, ?_⟩, ?_⟩
        · rw [List.take_add_one, List.take_add_one, heq, List.getElem?_eq_getElem hua, List.getElem?_eq_getElem hub, hx, hy]
        · simp (disch := omega) [go_sem, *, -List.reduceReplicate]
          omega
      · have hne : ¬ x.toNat = y.toNat := fun h => hxy (UInt8.toNat_inj.1 h)
        have hr : decide (cs = bs) = false := by
          have : cs ≠ bs := fun h => by subst h; rw [hx] at hy; exact hxy hy
          simp [this]
        rw [hr]
        exact W0
  · have hr : decide (cs = bs) = false := by
      have : cs ≠ bs := fun h => hl (by rw [h])
      simp [this]
    rw [hr]
    refine ACall.of_body mixed Tryd.func25 rfl (by kernel_rfl) Tryd.ntmps25 (by kernel_rfl) rfl (by simp) (by simp) (by simp) fun σ N hp hpn hk hkn hfree => ?_
    exact W0

theorem cutAt (c : Nat) (b : List UInt8) : ∃ (m : Nat) (t : List UInt8), (if (c : Int) < (b.length : Int) then (c : Int) else (b.length : Int)) = (m : Int) ∧ m ≤ b.length ∧ m ≤ c ∧ t.length = m ∧ (b.map byteAV).take m = t.map byteAV := by
  refine ⟨min c b.length, b.take c, ?_, Nat.min_le_right .., Nat.min_le_left .., by simp, ?_⟩
  · split <;> omega
  · rw [← List.map_take]
    congr 1
    by_cases h : c ≤ b.length
    · rw [Nat.min_eq_left h]
    · rw [Nat.min_eq_right (by omega), List.take_length, List.take_of_length_le (by omega)]

theorem cutStr (n : Nat) (b : List UInt8) : ∃ (m : Nat) (t : List UInt8), (if (n : Int) < (b.length : Int) then (n : Int) else (b.length : Int)) = (m : Int) ∧ m ≤ b.length ∧ m ≤ n ∧ t.length = m ∧ b.take m = t := by
  refine ⟨min n b.length, b.take (min n b.length), ?_, by omega, by omega, by simp, rfl⟩
  split <;> omega

theorem str_of {x : AV} (h : tyAV Tryd.prog 8 9 x) : ∃ l : List UInt8, l.length ≤ 9223372036854775807 ∧ x = strAV l := ty_str st9 h
end Go.Proofs.YtaelnglalpiemaaDoor

/- Predicates: names, masks, Valid. -/
namespace Go.Proofs.YtaelnglalpiemaaDoor
open Go.Ab
attribute [local irreducible] Go.Ab.tyAV Go.Ab.aw Go.Ab.aops Go.Ab.kReg Go.Ab.aThen Go.Ab.aBlk Go.Ab.acond Go.Ab.aguard Go.Ab.astep Go.Ab.AStepX Go.Ab.aRet

structure Pr where
  kind : Int
  mask : Int
  frm : Int
  to : Int
  name : List UInt8
  num : Int
deriving DecidableEq
def prAV (p : Pr) : AV := .agg [.lit (.int .i64 p.kind), .lit (.int .u64 p.mask), .lit (.int .i64 p.frm), .lit (.int .i64 p.to), .lit (.string ⟨p.name.toArray⟩), .lit (.int .i64 p.num)]
@[go_sem] theorem prAV_sz (p : Pr) : (prAV p).sz = 6 := rfl
@[go_sem] theorem prAV_isAgg (p : Pr) : (prAV p).isAgg = true := rfl
@[go_sem] theorem prAV_cell (p : Pr) : (prAV p).cell = true := rfl
@[go_sem] theorem prAV_ren (f : Nat → Option Nat) (p : Pr) : (prAV p).ren f = prAV p := rfl
theorem pr_eqB (a b : Pr) : (a.kind == b.kind && (a.mask == b.mask && (a.frm == b.frm && (a.to == b.to && (a.name == b.name && a.num == b.num))))) = decide (a = b) := by
  obtain ⟨a1, a2, a3, a4, a5, a6⟩ := a
  obtain ⟨b1, b2, b3, b4, b5, b6⟩ := b
  rw [Bool.eq_iff_iff]; simp
theorem barr_eq (l m : List UInt8) : ((ByteArray.mk l.toArray) == (ByteArray.mk m.toArray)) = (l == m) := by
  show (l.toArray == m.toArray) = (l == m)
  simp
theorem ev_pr_eq (a b : Pr) : evBin Tryd.prog .eql 24 (prAV a) (prAV b) = some ⟨[], .lit (.bool (decide (a = b))), []⟩ := by
  rw [← pr_eqB]
  simp only [evBin, prAV, evEqA, eq24, eqA, eqAs]
  simp [barr_eq]
theorem ev_pr_ne (a b : Pr) : evBin Tryd.prog .neq 24 (prAV a) (prAV b) = some ⟨[], .lit (.bool (!decide (a = b))), []⟩ := by
  rw [← pr_eqB]
  simp only [evBin, prAV, evEqA, eq24, eqA, eqAs]
  simp [barr_eq]
attribute [go_sem high] ev_pr_eq ev_pr_ne
/-- The same, the fields written out; a field that is a string may be the empty one. -/
@[go_sem high] theorem ev_pr_eq0 (a1 a2 a3 a4 a6 b1 b2 b3 b4 b6 : Int) (a5 b5 : List UInt8) :
    evBin Tryd.prog .eql 24 (.agg [.lit (.int .i64 a1), .lit (.int .u64 a2), .lit (.int .i64 a3), .lit (.int .i64 a4), .lit (.string ⟨a5.toArray⟩), .lit (.int .i64 a6)]) (.agg [.lit (.int .i64 b1), .lit (.int .u64 b2), .lit (.int .i64 b3), .lit (.int .i64 b4), .lit (.string ⟨b5.toArray⟩), .lit (.int .i64 b6)]) =
      some ⟨[], .lit (.bool (decide ((⟨a1, a2, a3, a4, a5, a6⟩ : Pr) = ⟨b1, b2, b3, b4, b5, b6⟩))), []⟩ := ev_pr_eq ⟨a1, a2, a3, a4, a5, a6⟩ ⟨b1, b2, b3, b4, b5, b6⟩
@[go_sem high] theorem ev_pr_eq1 (a1 a2 a3 a4 a6 b1 b2 b3 b4 b6 : Int) (a5 : List UInt8) :
    evBin Tryd.prog .eql 24 (.agg [.lit (.int .i64 a1), .lit (.int .u64 a2), .lit (.int .i64 a3), .lit (.int .i64 a4), .lit (.string ⟨a5.toArray⟩), .lit (.int .i64 a6)]) (.agg [.lit (.int .i64 b1), .lit (.int .u64 b2), .lit (.int .i64 b3), .lit (.int .i64 b4), .lit (.string ByteArray.empty), .lit (.int .i64 b6)]) =
      some ⟨[], .lit (.bool (decide ((⟨a1, a2, a3, a4, a5, a6⟩ : Pr) = ⟨b1, b2, b3, b4, [], b6⟩))), []⟩ := ev_pr_eq ⟨a1, a2, a3, a4, a5, a6⟩ ⟨b1, b2, b3, b4, [], b6⟩

def nmc (c : UInt8) : Bool := decide (97 ≤ c.toNat) && decide (c.toNat ≤ 122)
def nameB (s : List UInt8) : Bool := decide (1 ≤ s.length) && decide (s.length ≤ 16) && s.all nmc
theorem nameB_bad {s : List UInt8} {u : Nat} (hu : u < s.length) (h : nmc s[u] = false) : nameB s = false := by
  have : s.all nmc = false := by
    rw [List.all_eq_false]
    exact ⟨s[u], List.getElem_mem hu, by simp [h]⟩
  simp [nameB, this]

theorem name_gen (s : List UInt8) (r : Bool) (hr : nameB s = r) (hl : s.length ≤ 9223372036854775807) (k : Nat) :
    ACall Tryd.prog 87 [.lit (.string ⟨s.toArray⟩)] k [] (.lit (.bool r)) [] := by
  by_cases h1 : s.length < 1
  · have : r = false := by rw [← hr]; simp [nameB, show ¬ 1 ≤ s.length by omega]
    subst this
    clear hr
    have hi : (s.length : Int) < 1 := by omega
    refine ACall.of_body mixed Tryd.func87 rfl (by kernel_rfl) Tryd.ntmps87 (by kernel_rfl) rfl (by simp) (by simp) (by simp) fun σ N hp hpn hk hkn hfree => ?_
    exact W0
  · have hi : ¬ (s.length : Int) < 1 := by omega
    by_cases h2 : 16 < s.length
    · have : r = false := by rw [← hr]; simp [nameB, show ¬ s.length ≤ 16 by omega]
      subst this
      clear hr
      have hi2 : (16 : Int) < (s.length : Int) := by omega
      refine ACall.of_body mixed Tryd.func87 rfl (by kernel_rfl) Tryd.ntmps87 (by kernel_rfl) rfl (by simp) (by simp) (by simp) fun σ N hp hpn hk hkn hfree => ?_
      exact W0
    · have hi2 : ¬ (16 : Int) < (s.length : Int) := by omega
      refine ACall.of_body mixed Tryd.func87 rfl (by kernel_rfl) Tryd.ntmps87 (by kernel_rfl) rfl (by simp) (by simp) (by simp) fun σ N hp hpn hk hkn hfree => ?_
      refine Wk ?_
      refine go_loopF mixed (by kernel_rfl) [2, 3, 14, 15, 16, 17, 18, 19, 20, 21, 22, 23, 24, 25, 26, 27] [] (fun m_ s_ σ_ n_ => ∃ (u : Nat), m_ = s.length - u ∧ s_ 14 = .lit (.int .i64 u) ∧ (u ≤ s.length) ∧ (∀ c ∈ s.take u, nmc c = true)) ⟨_, 0, rfl, WF, WC, WC⟩ ?_
      intro m_1 s_1 σ_1 n_1 hs_1 hf_1 hn_1 hI_1
      obtain ⟨u, hm_1, h1_14, hu, hall⟩ := hI_1
      have h1_0 := (hs_1.at 0 (by decide)).trans WE
      have h1_13 := (hs_1.at 13 (by decide)).trans WE
      have hlow : ∀ id, id < N → σ_1 id = σ id := fun id hid => (hf_1.at id (by omega) WQ).trans WH
      by_cases hul : u = s.length
      · have : r = true := by
          rw [← hr]
          rw [hul, List.take_length] at hall
          simp only [nameB, Bool.and_eq_true, decide_eq_true_eq, List.all_eq_true]
          exact ⟨⟨by omega, by omega⟩, hall⟩
        subst this
        subst hul
        clear hall hr
        exact W0
      · have hui : u < s.length := by omega
        obtain ⟨c, hc⟩ : ∃ c, s[u] = c := ⟨_, rfl⟩
        have hcl := c.toNat_lt
        by_cases hg : nmc c = true
        · have hall2 : ∀ c ∈ s.take (u + 1), nmc c = true := by
            intro x hx
            rw [List.take_add_one, List.getElem?_eq_getElem hui, hc] at hx
            simp only [Option.toList, List.mem_append, List.mem_singleton] at hx
            rcases hx with hx | rfl
            · exact hall x hx
            · exact hg
          simp only [nmc, Bool.and_eq_true, decide_eq_true_eq] at hg
          have g1 : ¬ (c.toNat : Int) < 97 := by omega
          have g2 : ¬ (122 : Int) < (c.toNat : Int) := by omega
          clear hall hg hr
          refine Wk ?_
          exact ⟨WS, WG, WN, _, (show s.length - (u + 1) < m_1 by omega), u + 1, rfl, WF, WC, WC⟩
        · have hb : nmc c = false := by simpa using hg
          have : r = false := by rw [← hr]; exact nameB_bad hui (by rw [hc]; exact hb)
          subst this
          clear hall hr
          by_cases g1 : (c.toNat : Int) < 97
          · clear hg hb
            exact W0
          · have g2 : (122 : Int) < (c.toNat : Int) := by
              simp only [nmc, Bool.and_eq_false_iff, decide_eq_false_iff_not] at hb
              omega
            clear hg hb
            exact W0
theorem refname_gen (s : List UInt8) (r : Bool) (hr : nameB s = r) (hl : s.length ≤ 9223372036854775807) (k : Nat) :
    ACall Tryd.prog 88 [.lit (.string ⟨s.toArray⟩)] k [] (.lit (.bool r)) [] := by
  by_cases h1 : s.length < 1
  · have : r = false := by rw [← hr]; simp [nameB, show ¬ 1 ≤ s.length by omega]
    subst this
    clear hr
    have hi : (s.length : Int) < 1 := by omega
    refine ACall.of_body mixed Tryd.func88 rfl (by kernel_rfl) Tryd.ntmps88 (by kernel_rfl) rfl (by simp) (by simp) (by simp) fun σ N hp hpn hk hkn hfree => ?_
    exact W0
  · have hi : ¬ (s.length : Int) < 1 := by omega
    by_cases h2 : 16 < s.length
    · have : r = false := by rw [← hr]; simp [nameB, show ¬ s.length ≤ 16 by omega]
      subst this
      clear hr
      have hi2 : (16 : Int) < (s.length : Int) := by omega
      refine ACall.of_body mixed Tryd.func88 rfl (by kernel_rfl) Tryd.ntmps88 (by kernel_rfl) rfl (by simp) (by simp) (by simp) fun σ N hp hpn hk hkn hfree => ?_
      exact W0
    · have hi2 : ¬ (16 : Int) < (s.length : Int) := by omega
      refine ACall.of_body mixed Tryd.func88 rfl (by kernel_rfl) Tryd.ntmps88 (by kernel_rfl) rfl (by simp) (by simp) (by simp) fun σ N hp hpn hk hkn hfree => ?_
      refine Wk ?_
      refine go_loopF mixed (by kernel_rfl) [2, 3, 12, 13, 14, 15, 16, 17, 18, 19, 20, 21, 22, 23, 24, 25, 26, 27] [] (fun m_ s_ σ_ n_ => ∃ (u : Nat), m_ = s.length - u ∧ s_ 3 = .lit (.int .i64 u) ∧ (u ≤ s.length) ∧ (∀ c ∈ s.take u, nmc c = true)) ⟨_, 0, rfl, WF, WC, WC⟩ ?_
      intro m_2 s_2 σ_2 n_2 hs_2 hf_2 hn_2 hI_2
      obtain ⟨u, hm_2, h2_3, hu, hall⟩ := hI_2
      have h2_0 := (hs_2.at 0 (by decide)).trans WE
      have hlow : ∀ id, id < N → σ_2 id = σ id := fun id hid => (hf_2.at id (by omega) WQ).trans WH
      by_cases hul : u = s.length
      · have : r = true := by
          rw [← hr]
          rw [hul, List.take_length] at hall
          simp only [nameB, Bool.and_eq_true, decide_eq_true_eq, List.all_eq_true]
          exact ⟨⟨by omega, by omega⟩, hall⟩
        subst this
        subst hul
        clear hall hr
        exact W0
      · have hui : u < s.length := by omega
        obtain ⟨c, hc⟩ : ∃ c, s[u] = c := ⟨_, rfl⟩
        have hcl := c.toNat_lt
        by_cases hg : nmc c = true
        · have hall2 : ∀ c ∈ s.take (u + 1), nmc c = true := by
            intro x hx
            rw [List.take_add_one, List.getElem?_eq_getElem hui, hc] at hx
            simp only [Option.toList, List.mem_append, List.mem_singleton] at hx
            rcases hx with hx | rfl
            · exact hall x hx
            · exact hg
          simp only [nmc, Bool.and_eq_true, decide_eq_true_eq] at hg
          have g1 : ¬ (c.toNat : Int) < 97 := by omega
          have g2 : ¬ (122 : Int) < (c.toNat : Int) := by omega
          clear hall hg hr
          refine Wk ?_
          exact ⟨WS, WG, WN, _, (show s.length - (u + 1) < m_2 by omega), u + 1, rfl, WF, WC, WC⟩
        · have hb : nmc c = false := by simpa using hg
          have : r = false := by rw [← hr]; exact nameB_bad hui (by rw [hc]; exact hb)
          subst this
          clear hall hr
          by_cases g1 : (c.toNat : Int) < 97
          · clear hg hb
            exact W0
          · have g2 : (122 : Int) < (c.toNat : Int) := by
              simp only [nmc, Bool.and_eq_false_iff, decide_eq_false_iff_not] at hb
              omega
            clear hg hb
            exact W0

theorem name_spec (s : List UInt8) (hl : s.length ≤ 9223372036854775807) (k : Nat) :
    ACall Tryd.prog 87 [.lit (.string ⟨s.toArray⟩)] k [] (.lit (.bool (nameB s))) [] := name_gen s _ rfl hl k
theorem Name_spec (s : List UInt8) (hl : s.length ≤ 9223372036854775807) (k : Nat) :
    ACall Tryd.prog 88 [.lit (.string ⟨s.toArray⟩)] k [] (.lit (.bool (nameB s))) [] := refname_gen s _ rfl hl k

def maskB (m : Int) (n : Nat) : Bool := decide (m ≠ 0) && decide (m < 2 ^ n)
theorem mask_spec (m : Int) (h0 : 0 ≤ m) (h1 : m < 18446744073709551616) (n : Nat) (hn : n = 64 ∨ n = 32 ∨ n = 7) (k : Nat) :
    ACall Tryd.prog 86 [.lit (.int .u64 m), .lit (.int .i64 n)] k [] (.lit (.bool (maskB m n))) [] := by
  by_cases hm : m = 0
  · subst hm
    simp only [maskB, ne_eq, not_true_eq_false, decide_false, Bool.false_and]
    refine ACall.of_body mixed Tryd.func86 rfl (by kernel_rfl) Tryd.ntmps86 (by kernel_rfl) rfl (by simp) (by simp) (by simp) fun σ N hp hpn hk hkn hfree => ?_
    exact W0
  · have hmb : (m == 0) = false := by simp [hm]
    have hmc : (m != 0) = true := by simp [hm]
    have e0 : decide (m ≠ 0) = true := by simp [hm]
    unfold maskB
    rw [e0, Bool.true_and]
    clear e0
    rcases hn with rfl | rfl | rfl
    · have e1 : decide (m < 2 ^ 64) = true := by simp; omega
      rw [e1]
      clear e1
      refine ACall.of_body mixed Tryd.func86 rfl (by kernel_rfl) Tryd.ntmps86 (by kernel_rfl) rfl (by simp) (by simp) (by simp) fun σ N hp hpn hk hkn hfree => ?_
      exact W0
    · have e1 : (m.fdiv 4294967296 == 0) = decide (m < 2 ^ 32) := by
        rw [Int.fdiv_eq_ediv_of_nonneg _ (by omega), Bool.eq_iff_iff, beq_iff_eq, decide_eq_true_eq]; omega
      generalize decide (m < 2 ^ 32) = r at *
      cases r with
      | true =>
        refine ACall.of_body mixed Tryd.func86 rfl (by kernel_rfl) Tryd.ntmps86 (by kernel_rfl) rfl (by simp) (by simp) (by simp) fun σ N hp hpn hk hkn hfree => ?_
        exact W0
      | false =>
        refine ACall.of_body mixed Tryd.func86 rfl (by kernel_rfl) Tryd.ntmps86 (by kernel_rfl) rfl (by simp) (by simp) (by simp) fun σ N hp hpn hk hkn hfree => ?_
        exact W0
    · have e1 : (m.fdiv 128 == 0) = decide (m < 2 ^ 7) := by
        rw [Int.fdiv_eq_ediv_of_nonneg _ (by omega), Bool.eq_iff_iff, beq_iff_eq, decide_eq_true_eq]; omega
      generalize decide (m < 2 ^ 7) = r at *
      cases r with
      | true =>
        refine ACall.of_body mixed Tryd.func86 rfl (by kernel_rfl) Tryd.ntmps86 (by kernel_rfl) rfl (by simp) (by simp) (by simp) fun σ N hp hpn hk hkn hfree => ?_
        exact W0
      | false =>
        refine ACall.of_body mixed Tryd.func86 rfl (by kernel_rfl) Tryd.ntmps86 (by kernel_rfl) rfl (by simp) (by simp) (by simp) fun σ N hp hpn hk hkn hfree => ?_
        exact W0
end Go.Proofs.YtaelnglalpiemaaDoor

/- From a law's contract to what its statement asks, where a package-level array is read. -/
namespace Go.Ab
open Go.RowKit

theorem rep_tab {w : World} {h : Nat} {k : IntKind} {zs : List Int} (hpos : 0 < zs.length) (hc : ∀ i, i < zs.length → w.cell? ⟨h, i, none⟩ = some (.int k (zs.getD i 0))) : Rep (g0 w) (.view (.agg (zs.map fun z => .lit (.int k z)))) (.pointer (some ⟨h, 0, none⟩)) := by
  have hb : h < w.heap.size := World.block_lt_of_cell? w ⟨h, 0, none⟩ (hc 0 hpos)
  have hfl : flat (zs.map fun z => Value.int k z) = zs.map fun z => Value.int k z := flat_lits _ fun v hv => by obtain ⟨z, _, rfl⟩ := List.mem_map.1 hv; rfl
  refine .view _ (.agg (flat (zs.map fun z => Value.int k z)).toArray) h 0 (.agg _ (zs.map fun z => Value.int k z) (by simp) fun i x v hx hv => ?_) fun j u hu => ?_
  · rw [List.getElem?_map] at hx hv
    cases hz : zs[i]? with
    | none => rw [hz] at hx; cases hx
    | some z => rw [hz] at hx hv; cases hx; cases hv; exact .lit _ rfl
  · simp only [Value.cells, List.toList_toArray] at hu
    rw [hfl, List.getElem?_map] at hu
    cases hz : zs[j]? with
    | none => rw [hz] at hu; cases hu
    | some z =>
      rw [hz] at hu; cases hu
      have hj := (List.getElem?_eq_some_iff.1 hz).1
      have := hc j hj
      rw [List.getD_eq_getElem?_getD, hz] at this
      simp only [g0, if_pos hb, Nat.zero_add]
      exact this

theorem sim1 (w : World) (h : Nat) (X : AV) (hX : Rep (g0 w) (.view X) (.pointer (some ⟨h, 0, none⟩))) : Sim w (g0 w) (upd (fun _ => .none) 1 (.glob h X)) 2 w where
  below := Below.refl _ _
  imm := (sim0 w).imm
  bound := fun i hi => by rw [upd_ne _ _ _ _ (show i ≠ 1 by omega)]
  ents := fun i => by
    by_cases hi : i = 1
    · subst hi; rw [upd_same]; exact ⟨rfl, rfl, rfl, rfl, hX⟩
    · rw [upd_ne _ _ _ _ hi]; exact ⟨rfl, rfl, rfl, rfl⟩
  sep := fun i j b h _ => by simp [g0, Ghost.blk] at h
  fresh := fun i b h => by simp [g0, Ghost.blk] at h

theorem ACall.walksG {P : Program} {f : FuncId} {args : List AV} {v : Value} {h : Nat} {X : AV} (hcall : ACall P f args 0 [(1, .glob h X)] (.lit v) []) (w : World) (hX : Rep (g0 w) (.view X) (.pointer (some ⟨h, 0, none⟩))) {vals : List Value} (hr : Reps (g0 w) args vals) :
    Calls P f vals.toArray w fun e w' => e = .returned v ∧ Below w.heap.size w w' := by
  refine (hcall.2.2.2 w (g0 w) _ 2 w vals (sim1 w h X hX) hr.at.1 hr.at.2 (upd_ne _ _ _ _ (by omega)) (by omega) (fun p hp => by simp at hp; subst hp; simp [upd_same])).mono ?_
  rintro e w' ⟨u, rfl, g', _, hS, hu⟩
  rw [rep_lit_inv hu]
  exact ⟨rfl, hS.below⟩
end Go.Ab

/- Predicates: Valid. -/
namespace Go.Proofs.YtaelnglalpiemaaDoor
open Go.Ab
attribute [local irreducible] Go.Ab.tyAV Go.Ab.aw Go.Ab.aops Go.Ab.kReg Go.Ab.aThen Go.Ab.aBlk Go.Ab.acond Go.Ab.aguard Go.Ab.astep Go.Ab.AStepX Go.Ab.aRet

def bitsZ : List Int := [0, 64, 32, 7, 0, 0, 0, 0]
def bitsL : List AV := bitsZ.map fun z => .lit (.int .i64 z)
/-- The package-level table of bits. -/
def bitsG : Ent := .glob 0 (.agg bitsL)
@[simp, go_sem] theorem bitsG_ne : (bitsG = .none) = False := by simp [bitsG]
@[go_sem] theorem bitsL_1 : bitsL[1]? = some (.lit (.int .i64 64)) := rfl
@[go_sem] theorem bitsL_2 : bitsL[2]? = some (.lit (.int .i64 32)) := rfl
@[go_sem] theorem bitsL_3 : bitsL[3]? = some (.lit (.int .i64 7)) := rfl
@[go_sem] theorem bitsL_t1 : AV.szl (bitsL.take 1) = 1 := rfl
@[go_sem] theorem bitsL_t2 : AV.szl (bitsL.take 2) = 2 := rfl
@[go_sem] theorem bitsL_t3 : AV.szl (bitsL.take 3) = 3 := rfl

def predB (p : Pr) : Bool :=
  if p.kind = 1 then maskB p.mask 64 && decide (p = ⟨p.kind, p.mask, 0, 0, [], 0⟩)
  else if p.kind = 2 then maskB p.mask 32 && decide (p = ⟨p.kind, p.mask, 0, 0, [], 0⟩)
  else if p.kind = 3 then maskB p.mask 7 && decide (p = ⟨p.kind, p.mask, 0, 0, [], 0⟩)
  else if p.kind = 4 then decide (0 ≤ p.frm) && (decide (p.frm ≤ p.to) && (decide (p.to ≤ 67108864) && decide (p = ⟨p.kind, 0, p.frm, p.to, [], 0⟩)))
  else if p.kind = 5 then decide (0 ≤ p.frm) && (decide (p.frm < 1440) && (decide (0 ≤ p.to) && (decide (p.to < 1440) && decide (p = ⟨p.kind, 0, p.frm, p.to, [], 0⟩))))
  else if p.kind = 6 then nameB p.name && decide (p = ⟨p.kind, 0, 0, 0, p.name, 0⟩)
  else if p.kind = 7 then decide (0 ≤ p.num) && (decide (p.num ≤ 1000000) && decide (p = ⟨p.kind, 0, 0, 0, [], p.num⟩))
  else false
structure PrOk (p : Pr) : Prop where
  m0 : 0 ≤ p.mask
  m1 : p.mask < 18446744073709551616
  nl : p.name.length ≤ 9223372036854775807

theorem dand (p _q : Prop) [Decidable p] (hp : ¬ p) (b : Bool) : (decide p && b) = false := by simp [hp]
set_option maxHeartbeats 4000000 in
theorem predValid_spec (p : Pr) (hp0 : PrOk p) (d k : Nat) :
    ACall Tryd.prog 53 [prAV p] k [(d, bitsG)] (.lit (.bool (predB p))) [] := by
  obtain ⟨kd, m, f, t, n, x⟩ := p
  obtain ⟨m0, m1, nl⟩ := hp0
  simp only at m0 m1 nl
  simp only [prAV, predB]
  by_cases h1 : kd = 1
  · subst h1
    simp only [Int.reduceEq, if_false, if_true]
    have c1 := mask_spec m m0 m1 64 (by decide)
    generalize maskB m 64 = b at *
    cases b <;> simp only [Bool.true_and, Bool.false_and]
    all_goals
      unfold bitsG
      refine ACall.of_body mixed Tryd.func53 rfl (by kernel_rfl) Tryd.ntmps53 (by kernel_rfl) rfl (by simp) (by simp) (by simp) fun σ N hp hpn hk hkn hfree => ?_
      have hd := hp _ (List.mem_singleton.2 rfl); have hdn := hpn _ (List.mem_singleton.2 rfl); simp only at hd hdn; clear hp hpn
      have G : GlobAt d 0 := ⟨⟩
      have hcs := And.intro c1 True.intro
      clear c1
      exact W0
  · skip
    by_cases h2 : kd = 2
    · subst h2
      simp only [Int.reduceEq, if_false, if_true]
      have c1 := mask_spec m m0 m1 32 (by decide)
      generalize maskB m 32 = b at *
      cases b <;> simp only [Bool.true_and, Bool.false_and]
      all_goals
        unfold bitsG
        refine ACall.of_body mixed Tryd.func53 rfl (by kernel_rfl) Tryd.ntmps53 (by kernel_rfl) rfl (by simp) (by simp) (by simp) fun σ N hp hpn hk hkn hfree => ?_
        have hd := hp _ (List.mem_singleton.2 rfl); have hdn := hpn _ (List.mem_singleton.2 rfl); simp only at hd hdn; clear hp hpn
        have G : GlobAt d 0 := ⟨⟩
        have hcs := And.intro c1 True.intro
        clear c1
        exact W0
    · skip
      by_cases h3 : kd = 3
      · subst h3
        simp only [Int.reduceEq, if_false, if_true]
        have c1 := mask_spec m m0 m1 7 (by decide)
        generalize maskB m 7 = b at *
        cases b <;> simp only [Bool.true_and, Bool.false_and]
        all_goals
          unfold bitsG
          refine ACall.of_body mixed Tryd.func53 rfl (by kernel_rfl) Tryd.ntmps53 (by kernel_rfl) rfl (by simp) (by simp) (by simp) fun σ N hp hpn hk hkn hfree => ?_
          have hd := hp _ (List.mem_singleton.2 rfl); have hdn := hpn _ (List.mem_singleton.2 rfl); simp only at hd hdn; clear hp hpn
          have G : GlobAt d 0 := ⟨⟩
          have hcs := And.intro c1 True.intro
          clear c1
          exact W0
      · skip
        by_cases h4 : kd = 4
        · subst h4
          simp only [Int.reduceEq, if_false, if_true]
          by_cases c1 : 0 ≤ f
          · by_cases c2 : f ≤ t
            · by_cases c3 : t ≤ 67108864
              · simp only [decide_eq_true c1, decide_eq_true c2, decide_eq_true c3, Bool.true_and]
                unfold bitsG
                refine ACall.of_body mixed Tryd.func53 rfl (by kernel_rfl) Tryd.ntmps53 (by kernel_rfl) rfl (by simp) (by simp) (by simp) fun σ N hp hpn hk hkn hfree => ?_
                have hd := hp _ (List.mem_singleton.2 rfl); have hdn := hpn _ (List.mem_singleton.2 rfl); simp only at hd hdn; clear hp hpn
                have G : GlobAt d 0 := ⟨⟩
                exact W0
              · simp only [decide_eq_true c1, decide_eq_true c2, decide_eq_false c3, Bool.true_and, Bool.false_and]
                unfold bitsG
                refine ACall.of_body mixed Tryd.func53 rfl (by kernel_rfl) Tryd.ntmps53 (by kernel_rfl) rfl (by simp) (by simp) (by simp) fun σ N hp hpn hk hkn hfree => ?_
                have hd := hp _ (List.mem_singleton.2 rfl); have hdn := hpn _ (List.mem_singleton.2 rfl); simp only at hd hdn; clear hp hpn
                have G : GlobAt d 0 := ⟨⟩
                exact W0
            · simp only [decide_eq_true c1, decide_eq_false c2, Bool.true_and, Bool.false_and]
              unfold bitsG
              refine ACall.of_body mixed Tryd.func53 rfl (by kernel_rfl) Tryd.ntmps53 (by kernel_rfl) rfl (by simp) (by simp) (by simp) fun σ N hp hpn hk hkn hfree => ?_
              have hd := hp _ (List.mem_singleton.2 rfl); have hdn := hpn _ (List.mem_singleton.2 rfl); simp only at hd hdn; clear hp hpn
              have G : GlobAt d 0 := ⟨⟩
              exact W0
          · simp only [decide_eq_false c1, Bool.false_and]
            unfold bitsG
            refine ACall.of_body mixed Tryd.func53 rfl (by kernel_rfl) Tryd.ntmps53 (by kernel_rfl) rfl (by simp) (by simp) (by simp) fun σ N hp hpn hk hkn hfree => ?_
            have hd := hp _ (List.mem_singleton.2 rfl); have hdn := hpn _ (List.mem_singleton.2 rfl); simp only at hd hdn; clear hp hpn
            have G : GlobAt d 0 := ⟨⟩
            exact W0
        · skip
          by_cases h5 : kd = 5
          · subst h5
            simp only [Int.reduceEq, if_false, if_true]
            by_cases c1 : 0 ≤ f
            · by_cases c2 : f < 1440
              · by_cases c3 : 0 ≤ t
                · by_cases c4 : t < 1440
                  · simp only [decide_eq_true c1, decide_eq_true c2, decide_eq_true c3, decide_eq_true c4, Bool.true_and]
                    unfold bitsG
                    refine ACall.of_body mixed Tryd.func53 rfl (by kernel_rfl) Tryd.ntmps53 (by kernel_rfl) rfl (by simp) (by simp) (by simp) fun σ N hp hpn hk hkn hfree => ?_
                    have hd := hp _ (List.mem_singleton.2 rfl); have hdn := hpn _ (List.mem_singleton.2 rfl); simp only at hd hdn; clear hp hpn
                    have G : GlobAt d 0 := ⟨⟩
                    exact W0
                  · simp only [decide_eq_true c1, decide_eq_true c2, decide_eq_true c3, decide_eq_false c4, Bool.true_and, Bool.false_and]
                    unfold bitsG
                    refine ACall.of_body mixed Tryd.func53 rfl (by kernel_rfl) Tryd.ntmps53 (by kernel_rfl) rfl (by simp) (by simp) (by simp) fun σ N hp hpn hk hkn hfree => ?_
                    have hd := hp _ (List.mem_singleton.2 rfl); have hdn := hpn _ (List.mem_singleton.2 rfl); simp only at hd hdn; clear hp hpn
                    have G : GlobAt d 0 := ⟨⟩
                    exact W0
                · simp only [decide_eq_true c1, decide_eq_true c2, decide_eq_false c3, Bool.true_and, Bool.false_and]
                  unfold bitsG
                  refine ACall.of_body mixed Tryd.func53 rfl (by kernel_rfl) Tryd.ntmps53 (by kernel_rfl) rfl (by simp) (by simp) (by simp) fun σ N hp hpn hk hkn hfree => ?_
                  have hd := hp _ (List.mem_singleton.2 rfl); have hdn := hpn _ (List.mem_singleton.2 rfl); simp only at hd hdn; clear hp hpn
                  have G : GlobAt d 0 := ⟨⟩
                  exact W0
              · simp only [decide_eq_true c1, decide_eq_false c2, Bool.true_and, Bool.false_and]
                unfold bitsG
                refine ACall.of_body mixed Tryd.func53 rfl (by kernel_rfl) Tryd.ntmps53 (by kernel_rfl) rfl (by simp) (by simp) (by simp) fun σ N hp hpn hk hkn hfree => ?_
                have hd := hp _ (List.mem_singleton.2 rfl); have hdn := hpn _ (List.mem_singleton.2 rfl); simp only at hd hdn; clear hp hpn
                have G : GlobAt d 0 := ⟨⟩
                exact W0
            · simp only [decide_eq_false c1, Bool.false_and]
              unfold bitsG
              refine ACall.of_body mixed Tryd.func53 rfl (by kernel_rfl) Tryd.ntmps53 (by kernel_rfl) rfl (by simp) (by simp) (by simp) fun σ N hp hpn hk hkn hfree => ?_
              have hd := hp _ (List.mem_singleton.2 rfl); have hdn := hpn _ (List.mem_singleton.2 rfl); simp only at hd hdn; clear hp hpn
              have G : GlobAt d 0 := ⟨⟩
              exact W0
          · skip
            by_cases h6 : kd = 6
            · subst h6
              simp only [Int.reduceEq, if_false, if_true]
              have c1 := name_spec n nl
              generalize nameB n = b at *
              cases b <;> simp only [Bool.true_and, Bool.false_and]
              all_goals
                unfold bitsG
                refine ACall.of_body mixed Tryd.func53 rfl (by kernel_rfl) Tryd.ntmps53 (by kernel_rfl) rfl (by simp) (by simp) (by simp) fun σ N hp hpn hk hkn hfree => ?_
                have hd := hp _ (List.mem_singleton.2 rfl); have hdn := hpn _ (List.mem_singleton.2 rfl); simp only at hd hdn; clear hp hpn
                have G : GlobAt d 0 := ⟨⟩
                have hcs := And.intro c1 True.intro
                clear c1
                exact W0
            · skip
              by_cases h7 : kd = 7
              · subst h7
                simp only [Int.reduceEq, if_false, if_true]
                by_cases c1 : 0 ≤ x
                · by_cases c2 : x ≤ 1000000
                  · simp only [decide_eq_true c1, decide_eq_true c2, Bool.true_and]
                    unfold bitsG
                    refine ACall.of_body mixed Tryd.func53 rfl (by kernel_rfl) Tryd.ntmps53 (by kernel_rfl) rfl (by simp) (by simp) (by simp) fun σ N hp hpn hk hkn hfree => ?_
                    have hd := hp _ (List.mem_singleton.2 rfl); have hdn := hpn _ (List.mem_singleton.2 rfl); simp only at hd hdn; clear hp hpn
                    have G : GlobAt d 0 := ⟨⟩
                    exact W0
                  · simp only [decide_eq_true c1, decide_eq_false c2, Bool.true_and, Bool.false_and]
                    unfold bitsG
                    refine ACall.of_body mixed Tryd.func53 rfl (by kernel_rfl) Tryd.ntmps53 (by kernel_rfl) rfl (by simp) (by simp) (by simp) fun σ N hp hpn hk hkn hfree => ?_
                    have hd := hp _ (List.mem_singleton.2 rfl); have hdn := hpn _ (List.mem_singleton.2 rfl); simp only at hd hdn; clear hp hpn
                    have G : GlobAt d 0 := ⟨⟩
                    exact W0
                · simp only [decide_eq_false c1, Bool.false_and]
                  unfold bitsG
                  refine ACall.of_body mixed Tryd.func53 rfl (by kernel_rfl) Tryd.ntmps53 (by kernel_rfl) rfl (by simp) (by simp) (by simp) fun σ N hp hpn hk hkn hfree => ?_
                  have hd := hp _ (List.mem_singleton.2 rfl); have hdn := hpn _ (List.mem_singleton.2 rfl); simp only at hd hdn; clear hp hpn
                  have G : GlobAt d 0 := ⟨⟩
                  exact W0
              · skip
                simp only [if_neg h1, if_neg h2, if_neg h3, if_neg h4, if_neg h5, if_neg h6, if_neg h7]
                have g1 : (kd == 1) = false := by simp [h1]
                have g2 : (kd == 2) = false := by simp [h2]
                have g3 : (kd == 3) = false := by simp [h3]
                have g4 : (kd == 4) = false := by simp [h4]
                have g5 : (kd == 5) = false := by simp [h5]
                have g6 : (kd == 6) = false := by simp [h6]
                have g7 : (kd == 7) = false := by simp [h7]
                clear h1 h2 h3 h4 h5 h6 h7
                unfold bitsG
                refine ACall.of_body mixed Tryd.func53 rfl (by kernel_rfl) Tryd.ntmps53 (by kernel_rfl) rfl (by simp) (by simp) (by simp) fun σ N hp hpn hk hkn hfree => ?_
                have hd := hp _ (List.mem_singleton.2 rfl); have hdn := hpn _ (List.mem_singleton.2 rfl); simp only at hd hdn; clear hp hpn
                have G : GlobAt d 0 := ⟨⟩
                exact W0
set_option maxHeartbeats 4000000 in
theorem refPred_spec (p : Pr) (hp0 : PrOk p) (k : Nat) :
    ACall Tryd.prog 55 [prAV p] k [] (.lit (.bool (predB p))) [] := by
  obtain ⟨kd, m, f, t, n, x⟩ := p
  obtain ⟨m0, m1, nl⟩ := hp0
  simp only at m0 m1 nl
  simp only [prAV, predB]
  by_cases h1 : kd = 1
  · subst h1
    simp only [Int.reduceEq, if_false, if_true]
    unfold maskB
    by_cases hm : m = 0
    · subst hm
      simp only [ne_eq, not_true_eq_false, decide_false, Bool.false_and]
      refine ACall.of_body mixed Tryd.func55 rfl (by kernel_rfl) Tryd.ntmps55 (by kernel_rfl) rfl (by simp) (by simp) (by simp) fun σ N hp hpn hk hkn hfree => ?_
      exact W0
    · have hmb : (m == 0) = false := by simp [hm]
      have hmc : (m != 0) = true := by simp [hm]
      rw [show decide (m ≠ 0) = true by simp [hm], Bool.true_and]
      rw [show decide (m < 2 ^ 64) = true by simp; omega, Bool.true_and]
      refine ACall.of_body mixed Tryd.func55 rfl (by kernel_rfl) Tryd.ntmps55 (by kernel_rfl) rfl (by simp) (by simp) (by simp) fun σ N hp hpn hk hkn hfree => ?_
      exact W0
  · skip
    by_cases h2 : kd = 2
    · subst h2
      simp only [Int.reduceEq, if_false, if_true]
      unfold maskB
      by_cases hm : m = 0
      · subst hm
        simp only [ne_eq, not_true_eq_false, decide_false, Bool.false_and]
        refine ACall.of_body mixed Tryd.func55 rfl (by kernel_rfl) Tryd.ntmps55 (by kernel_rfl) rfl (by simp) (by simp) (by simp) fun σ N hp hpn hk hkn hfree => ?_
        exact W0
      · have hmb : (m == 0) = false := by simp [hm]
        have hmc : (m != 0) = true := by simp [hm]
        rw [show decide (m ≠ 0) = true by simp [hm], Bool.true_and]
        by_cases hl : m < 4294967296
        · rw [show decide (m < 2 ^ 32) = true by simp; omega, Bool.true_and]
          refine ACall.of_body mixed Tryd.func55 rfl (by kernel_rfl) Tryd.ntmps55 (by kernel_rfl) rfl (by simp) (by simp) (by simp) fun σ N hp hpn hk hkn hfree => ?_
          exact W0
        · rw [show decide (m < 2 ^ 32) = false by simp; omega, Bool.false_and]
          refine ACall.of_body mixed Tryd.func55 rfl (by kernel_rfl) Tryd.ntmps55 (by kernel_rfl) rfl (by simp) (by simp) (by simp) fun σ N hp hpn hk hkn hfree => ?_
          exact W0
    · skip
      by_cases h3 : kd = 3
      · subst h3
        simp only [Int.reduceEq, if_false, if_true]
        unfold maskB
        by_cases hm : m = 0
        · subst hm
          simp only [ne_eq, not_true_eq_false, decide_false, Bool.false_and]
          refine ACall.of_body mixed Tryd.func55 rfl (by kernel_rfl) Tryd.ntmps55 (by kernel_rfl) rfl (by simp) (by simp) (by simp) fun σ N hp hpn hk hkn hfree => ?_
          exact W0
        · have hmb : (m == 0) = false := by simp [hm]
          have hmc : (m != 0) = true := by simp [hm]
          rw [show decide (m ≠ 0) = true by simp [hm], Bool.true_and]
          by_cases hl : m < 128
          · rw [show decide (m < 2 ^ 7) = true by simp; omega, Bool.true_and]
            refine ACall.of_body mixed Tryd.func55 rfl (by kernel_rfl) Tryd.ntmps55 (by kernel_rfl) rfl (by simp) (by simp) (by simp) fun σ N hp hpn hk hkn hfree => ?_
            exact W0
          · rw [show decide (m < 2 ^ 7) = false by simp; omega, Bool.false_and]
            refine ACall.of_body mixed Tryd.func55 rfl (by kernel_rfl) Tryd.ntmps55 (by kernel_rfl) rfl (by simp) (by simp) (by simp) fun σ N hp hpn hk hkn hfree => ?_
            exact W0
      · skip
        by_cases h4 : kd = 4
        · subst h4
          simp only [Int.reduceEq, if_false, if_true]
          by_cases c1 : 0 ≤ f
          · by_cases c2 : f ≤ t
            · by_cases c3 : t ≤ 67108864
              · simp only [decide_eq_true c1, decide_eq_true c2, decide_eq_true c3, Bool.true_and]
                refine ACall.of_body mixed Tryd.func55 rfl (by kernel_rfl) Tryd.ntmps55 (by kernel_rfl) rfl (by simp) (by simp) (by simp) fun σ N hp hpn hk hkn hfree => ?_
                exact W0
              · simp only [decide_eq_true c1, decide_eq_true c2, decide_eq_false c3, Bool.true_and, Bool.false_and]
                refine ACall.of_body mixed Tryd.func55 rfl (by kernel_rfl) Tryd.ntmps55 (by kernel_rfl) rfl (by simp) (by simp) (by simp) fun σ N hp hpn hk hkn hfree => ?_
                exact W0
            · simp only [decide_eq_true c1, decide_eq_false c2, Bool.true_and, Bool.false_and]
              refine ACall.of_body mixed Tryd.func55 rfl (by kernel_rfl) Tryd.ntmps55 (by kernel_rfl) rfl (by simp) (by simp) (by simp) fun σ N hp hpn hk hkn hfree => ?_
              exact W0
          · simp only [decide_eq_false c1, Bool.false_and]
            refine ACall.of_body mixed Tryd.func55 rfl (by kernel_rfl) Tryd.ntmps55 (by kernel_rfl) rfl (by simp) (by simp) (by simp) fun σ N hp hpn hk hkn hfree => ?_
            exact W0
        · skip
          by_cases h5 : kd = 5
          · subst h5
            simp only [Int.reduceEq, if_false, if_true]
            by_cases c1 : 0 ≤ f
            · by_cases c2 : f < 1440
              · by_cases c3 : 0 ≤ t
                · by_cases c4 : t < 1440
                  · simp only [decide_eq_true c1, decide_eq_true c2, decide_eq_true c3, decide_eq_true c4, Bool.true_and]
                    refine ACall.of_body mixed Tryd.func55 rfl (by kernel_rfl) Tryd.ntmps55 (by kernel_rfl) rfl (by simp) (by simp) (by simp) fun σ N hp hpn hk hkn hfree => ?_
                    exact W0
                  · simp only [decide_eq_true c1, decide_eq_true c2, decide_eq_true c3, decide_eq_false c4, Bool.true_and, Bool.false_and]
                    refine ACall.of_body mixed Tryd.func55 rfl (by kernel_rfl) Tryd.ntmps55 (by kernel_rfl) rfl (by simp) (by simp) (by simp) fun σ N hp hpn hk hkn hfree => ?_
                    exact W0
                · simp only [decide_eq_true c1, decide_eq_true c2, decide_eq_false c3, Bool.true_and, Bool.false_and]
                  refine ACall.of_body mixed Tryd.func55 rfl (by kernel_rfl) Tryd.ntmps55 (by kernel_rfl) rfl (by simp) (by simp) (by simp) fun σ N hp hpn hk hkn hfree => ?_
                  exact W0
              · simp only [decide_eq_true c1, decide_eq_false c2, Bool.true_and, Bool.false_and]
                refine ACall.of_body mixed Tryd.func55 rfl (by kernel_rfl) Tryd.ntmps55 (by kernel_rfl) rfl (by simp) (by simp) (by simp) fun σ N hp hpn hk hkn hfree => ?_
                exact W0
            · simp only [decide_eq_false c1, Bool.false_and]
              refine ACall.of_body mixed Tryd.func55 rfl (by kernel_rfl) Tryd.ntmps55 (by kernel_rfl) rfl (by simp) (by simp) (by simp) fun σ N hp hpn hk hkn hfree => ?_
              exact W0
          · skip
            by_cases h6 : kd = 6
            · subst h6
              simp only [Int.reduceEq, if_false, if_true]
              have c1 := Name_spec n nl
              generalize nameB n = b at *
              cases b <;> simp only [Bool.true_and, Bool.false_and]
              all_goals
                refine ACall.of_body mixed Tryd.func55 rfl (by kernel_rfl) Tryd.ntmps55 (by kernel_rfl) rfl (by simp) (by simp) (by simp) fun σ N hp hpn hk hkn hfree => ?_
                have hcs := And.intro c1 True.intro
                clear c1
                exact W0
            · skip
              by_cases h7 : kd = 7
              · subst h7
                simp only [Int.reduceEq, if_false, if_true]
                by_cases c1 : 0 ≤ x
                · by_cases c2 : x ≤ 1000000
                  · simp only [decide_eq_true c1, decide_eq_true c2, Bool.true_and]
                    refine ACall.of_body mixed Tryd.func55 rfl (by kernel_rfl) Tryd.ntmps55 (by kernel_rfl) rfl (by simp) (by simp) (by simp) fun σ N hp hpn hk hkn hfree => ?_
                    exact W0
                  · simp only [decide_eq_true c1, decide_eq_false c2, Bool.true_and, Bool.false_and]
                    refine ACall.of_body mixed Tryd.func55 rfl (by kernel_rfl) Tryd.ntmps55 (by kernel_rfl) rfl (by simp) (by simp) (by simp) fun σ N hp hpn hk hkn hfree => ?_
                    exact W0
                · simp only [decide_eq_false c1, Bool.false_and]
                  refine ACall.of_body mixed Tryd.func55 rfl (by kernel_rfl) Tryd.ntmps55 (by kernel_rfl) rfl (by simp) (by simp) (by simp) fun σ N hp hpn hk hkn hfree => ?_
                  exact W0
              · skip
                simp only [if_neg h1, if_neg h2, if_neg h3, if_neg h4, if_neg h5, if_neg h6, if_neg h7]
                have g1 : (kd == 1) = false := by simp [h1]
                have g2 : (kd == 2) = false := by simp [h2]
                have g3 : (kd == 3) = false := by simp [h3]
                have g4 : (kd == 4) = false := by simp [h4]
                have g5 : (kd == 5) = false := by simp [h5]
                have g6 : (kd == 6) = false := by simp [h6]
                have g7 : (kd == 7) = false := by simp [h7]
                clear h1 h2 h3 h4 h5 h6 h7
                refine ACall.of_body mixed Tryd.func55 rfl (by kernel_rfl) Tryd.ntmps55 (by kernel_rfl) rfl (by simp) (by simp) (by simp) fun σ N hp hpn hk hkn hfree => ?_
                exact W0
end Go.Proofs.YtaelnglalpiemaaDoor

/- Caveats: Valid, Firsts, Same. -/
namespace Go.Proofs.YtaelnglalpiemaaDoor
open Go.Ab
attribute [local irreducible] Go.Ab.tyAV Go.Ab.aw Go.Ab.aops Go.Ab.kReg Go.Ab.aThen Go.Ab.aBlk Go.Ab.acond Go.Ab.aguard Go.Ab.astep Go.Ab.AStepX Go.Ab.aRet

structure Ca where
  third : Bool
  first : Pr
  party : Int
  ticket : List UInt8
  box : List UInt8
deriving DecidableEq
def caAV (c : Ca) : AV := .agg [.lit (.bool c.third), prAV c.first, .lit (.int .i64 c.party), .slice none (c.ticket.map byteAV), .slice none (c.box.map byteAV)]
@[go_sem] theorem caAV_sz (c : Ca) : (caAV c).sz = 10 := rfl
@[go_sem] theorem caAV_isAgg (c : Ca) : (caAV c).isAgg = true := rfl
@[go_sem] theorem caAV_cell (c : Ca) : (caAV c).cell = true := rfl
@[go_sem] theorem caAV_ren (f : Nat → Option Nat) (c : Ca) : (caAV c).ren f = caAV c := by
  simp only [caAV, AV.ren, AV.renl, prAV_ren, renl_bytes, Option.bind_none]
@[go_sem] theorem renl_cas (f : Nat → Option Nat) (l : List Ca) : AV.renl f (l.map caAV) = l.map caAV := by
  rw [AV.renl_map, List.map_map]; exact List.map_congr_left fun t _ => caAV_ren f t
@[go_sem] theorem all_cas1 (l : List Ca) : (l.map caAV).all (fun x => x.sz == 10) = true := by
  rw [List.all_eq_true]; intro x hx; obtain ⟨b, _, rfl⟩ := List.mem_map.1 hx; rfl
@[go_sem] theorem all_cas2 (l : List Ca) : (l.map caAV).all (fun x => x.sz == 10 && x.cell) = true := by
  rw [List.all_eq_true]; intro x hx; obtain ⟨b, _, rfl⟩ := List.mem_map.1 hx; rfl
@[go_sem] theorem renl_prs (f : Nat → Option Nat) (l : List Pr) : AV.renl f (l.map prAV) = l.map prAV := by
  rw [AV.renl_map, List.map_map]; exact List.map_congr_left fun t _ => prAV_ren f t
@[go_sem] theorem all_prs1 (l : List Pr) : (l.map prAV).all (fun x => x.sz == 6) = true := by
  rw [List.all_eq_true]; intro x hx; obtain ⟨b, _, rfl⟩ := List.mem_map.1 hx; rfl
@[go_sem] theorem all_prs2 (l : List Pr) : (l.map prAV).all (fun x => x.sz == 6 && x.cell) = true := by
  rw [List.all_eq_true]; intro x hx; obtain ⟨b, _, rfl⟩ := List.mem_map.1 hx; rfl
@[go_sem] theorem caAV_get0 (c : Ca) : (caAV c).get [0] = some (.lit (.bool c.third)) := rfl
@[go_sem] theorem caAV_get1 (c : Ca) : (caAV c).get [1] = some (prAV c.first) := rfl
@[go_sem] theorem caAV_get2 (c : Ca) : (caAV c).get [2] = some (.lit (.int .i64 c.party)) := rfl
@[go_sem] theorem caAV_get3 (c : Ca) : (caAV c).get [3] = some (.slice none (c.ticket.map byteAV)) := rfl
@[go_sem] theorem caAV_get4 (c : Ca) : (caAV c).get [4] = some (.slice none (c.box.map byteAV)) := rfl
@[go_sem] theorem caAV_offs0 (c : Ca) : (caAV c).offs [0] = 0 := rfl
@[go_sem] theorem caAV_offs1 (c : Ca) : (caAV c).offs [1] = 1 := rfl
@[go_sem] theorem caAV_offs2 (c : Ca) : (caAV c).offs [2] = 7 := rfl
@[go_sem] theorem caAV_offs3 (c : Ca) : (caAV c).offs [3] = 8 := rfl
@[go_sem] theorem caAV_offs4 (c : Ca) : (caAV c).offs [4] = 9 := rfl

def firstsS (l : List Ca) : List Pr := (l.filter fun c => !c.third).map (·.first)
theorem firsts_at {l : List Ca} {u : Nat} {c : Ca} (h : u < l.length) (hc : l[u] = c) : firstsS (l.take (u + 1)) = firstsS (l.take u) ++ (if c.third = true then [] else [c.first]) := by
  have : l.take (u + 1) = l.take u ++ [c] := by rw [List.take_add_one, List.getElem?_eq_getElem h, hc]; rfl
  unfold firstsS
  rw [this, List.filter_append, List.map_append]
  cases hb : c.third <;> simp [hb]
theorem firsts_len (l : List Ca) : (firstsS l).length ≤ l.length := by
  unfold firstsS; rw [List.length_map]; exact List.length_filter_le _ _

theorem firsts_gen (l : List Ca) (R : List Pr) (hR : firstsS l = R) (hl : l.length ≤ 10000) (k : Nat) :
    ACall Tryd.prog 18 [.slice none (l.map caAV)] k [] (.slice none (R.map prAV)) [] := by
  have hf0 : firstsS ([] : List Ca) = [] := rfl
  refine ACall.of_body mixed Tryd.func18 rfl (by kernel_rfl) Tryd.ntmps18 (by kernel_rfl) rfl (by simp) (by simp) (by simp) fun σ N hp hpn hk hkn hfree => ?_
  refine Wk ?_
  refine ALoop.nilrow 3 24 6 (by simp (disch := omega) [go_sem, *, -List.reduceReplicate]) ?_
  refine go_loopB (N) mixed (by kernel_rfl) [3, 5, 8, 9, 10, 11, 12, 13, 14, 15, 16, 17, 18, 19, 20] [] (fun m_ s_ σ_ n_ => ∃ (u : Nat) (q : Nat) (acc : List Pr), m_ = l.length - u ∧ s_ 8 = .lit (.int .i64 u) ∧ s_ 3 = .slice (some q) (acc.map prAV) ∧ σ_ (q) = .row 24 6 acc.length ∧ (u ≤ l.length) ∧ (N ≤ q) ∧ (q < n_) ∧ (acc.length ≤ u) ∧ (firstsS (l.take u) = acc)) ⟨_, 0, _, [], rfl, WF, WF, WF, WC, WC, WC, WC, WC⟩ ?_
  intro m_1 s_1 σ_1 n_1 hs_1 hf_1 hn_1 hI_1
  obtain ⟨u, q, acc, hm_1, h1_8, h1_3, e1_0, hu, hq, hqn, hal, hacc⟩ := hI_1
  have h1_2 := (hs_1.at 2 (by decide)).trans WE
  have h1_6 := (hs_1.at 6 (by decide)).trans WE
  have h1_7 := (hs_1.at 7 (by decide)).trans WE
  have hlow : ∀ id, id < N → σ_1 id = σ id := fun id hid => (hf_1.at id (by omega) WQ).trans WH
  by_cases hul : u = l.length
  · rw [hul, List.take_length, hR] at hacc
    subst hacc hul
    clear hR
    exact WM
  · have hui : u < l.length := by omega
    obtain ⟨c, hc⟩ : ∃ c, l[u] = c := ⟨_, rfl⟩
    have hf := firsts_at hui hc
    rw [hacc] at hf
    clear hacc hR
    cases hb : c.third with
    | true =>
      rw [hb, if_pos rfl, List.append_nil] at hf
      refine Wk ?_
      exact ⟨WS, WG, WN, _, (show l.length - (u + 1) < m_1 by omega), u + 1, q, acc, rfl, WF, WF, WF, WC, WC, WC, WC, WC⟩
    | false =>
      rw [hb, if_neg (by simp)] at hf
      refine Wk ?_
      exact ⟨WS, WG, WN, _, (show l.length - (u + 1) < m_1 by omega), u + 1, q, acc ++ [c.first], rfl, WF, WF, WF, WC, WC, WC, WC, WC⟩
theorem refFirsts_gen (l : List Ca) (R : List Pr) (hR : firstsS l = R) (hl : l.length ≤ 10000) (k : Nat) :
    ACall Tryd.prog 19 [.slice none (l.map caAV)] k [] (.slice none (R.map prAV)) [] := by
  have hf0 : firstsS ([] : List Ca) = [] := rfl
  refine ACall.of_body mixed Tryd.func19 rfl (by kernel_rfl) Tryd.ntmps19 (by kernel_rfl) rfl (by simp) (by simp) (by simp) fun σ N hp hpn hk hkn hfree => ?_
  refine Wk ?_
  refine ALoop.nilrow 3 24 6 (by simp (disch := omega) [go_sem, *, -List.reduceReplicate]) ?_
  refine go_loopB (N) mixed (by kernel_rfl) [3, 4, 5, 6, 7, 8, 9, 10, 11, 12, 13, 14, 15, 16, 17, 18, 19, 20, 21, 22, 23, 24] [] (fun m_ s_ σ_ n_ => ∃ (u : Nat) (q : Nat) (acc : List Pr), m_ = l.length - u ∧ s_ 4 = .lit (.int .i64 u) ∧ s_ 3 = .slice (some q) (acc.map prAV) ∧ σ_ (q) = .row 24 6 acc.length ∧ (u ≤ l.length) ∧ (N ≤ q) ∧ (q < n_) ∧ (acc.length ≤ u) ∧ (firstsS (l.take u) = acc)) ⟨_, 0, _, [], rfl, WF, WF, WF, WC, WC, WC, WC, WC⟩ ?_
  intro m_2 s_2 σ_2 n_2 hs_2 hf_2 hn_2 hI_2
  obtain ⟨u, q, acc, hm_2, h2_4, h2_3, e2_0, hu, hq, hqn, hal, hacc⟩ := hI_2
  have h2_0 := (hs_2.at 0 (by decide)).trans WE
  have h2_2 := (hs_2.at 2 (by decide)).trans WE
  have hlow : ∀ id, id < N → σ_2 id = σ id := fun id hid => (hf_2.at id (by omega) WQ).trans WH
  by_cases hul : u = l.length
  · rw [hul, List.take_length, hR] at hacc
    subst hacc hul
    clear hR
    exact WM
  · have hui : u < l.length := by omega
    obtain ⟨c, hc⟩ : ∃ c, l[u] = c := ⟨_, rfl⟩
    have hf := firsts_at hui hc
    rw [hacc] at hf
    clear hacc hR
    cases hb : c.third with
    | true =>
      rw [hb, if_pos rfl, List.append_nil] at hf
      refine Wk ?_
      exact ⟨WS, WG, WN, _, (show l.length - (u + 1) < m_2 by omega), u + 1, q, acc, rfl, WF, WF, WF, WC, WC, WC, WC, WC⟩
    | false =>
      rw [hb, if_neg (by simp)] at hf
      refine Wk ?_
      exact ⟨WS, WG, WN, _, (show l.length - (u + 1) < m_2 by omega), u + 1, q, acc ++ [c.first], rfl, WF, WF, WF, WC, WC, WC, WC, WC⟩
theorem SamePredicates_refl (l : List Pr) (hl : l.length ≤ 100000) (k : Nat) :
    ACall Tryd.prog 17 [.slice none (l.map prAV), .slice none (l.map prAV)] k [] (.lit (.bool true)) [] := by
  refine ACall.of_body mixed Tryd.func17 rfl (by kernel_rfl) Tryd.ntmps17 (by kernel_rfl) rfl (by simp) (by simp) (by simp) fun σ N hp hpn hk hkn hfree => ?_
  refine Wk ?_
  refine go_loopF mixed (by kernel_rfl) [4, 5, 11, 12, 13, 14, 15, 16, 17, 18, 19, 20, 21, 22, 23, 24, 25] [] (fun m_ s_ σ_ n_ => ∃ (u : Nat), m_ = l.length - u ∧ s_ 5 = .lit (.int .i64 u) ∧ (u ≤ l.length)) ⟨_, 0, rfl, WF, WC⟩ ?_
  intro m_3 s_3 σ_3 n_3 hs_3 hf_3 hn_3 hI_3
  obtain ⟨u, hm_3, h3_5, hu⟩ := hI_3
  have h3_0 := (hs_3.at 0 (by decide)).trans WE
  have h3_1 := (hs_3.at 1 (by decide)).trans WE
  have hlow : ∀ id, id < N → σ_3 id = σ id := fun id hid => (hf_3.at id (by omega) WQ).trans WH
  by_cases hul : u = l.length
  · subst hul
    exact W0
  · have hui : u < l.length := by omega
    obtain ⟨c, hc⟩ : ∃ c, l[u] = c := ⟨_, rfl⟩
    refine Wk ?_
    exact ⟨WS, WG, WN, _, (show l.length - (u + 1) < m_3 by omega), u + 1, rfl, WF, WC⟩

theorem Equal_spec (a b : List UInt8) (ha : a.length ≤ 1000000) (hb : b.length ≤ 1000000) (k : Nat) :
    ACall Tryd.prog 58 [.slice none (a.map byteAV), .slice none (b.map byteAV)] k [] (.lit (.bool (decide (a = b)))) [] := by
  by_cases h : a = b
  · subst h
    simp only [decide_true]
    refine ACall.of_body mixed Tryd.func58 rfl (by kernel_rfl) Tryd.ntmps58 (by kernel_rfl) rfl (by simp) (by simp) (by simp) fun σ N hp hpn hk hkn hfree => ?_
    exact W0
  · rw [decide_eq_false h]
    have h1 : ((ByteArray.mk a.toArray) == (ByteArray.mk b.toArray)) = false := by rw [barr_eq]; simp [h]
    have h2 : (a == b) = false := by simp [h]
    have h3 : (a.toArray == b.toArray) = false := by simp [h]
    refine ACall.of_body mixed Tryd.func58 rfl (by kernel_rfl) Tryd.ntmps58 (by kernel_rfl) rfl (by simp) (by simp) (by simp) fun σ N hp hpn hk hkn hfree => ?_
    exact W0
end Go.Proofs.YtaelnglalpiemaaDoor

/- Caveats: Same, Valid. -/
namespace Go.Proofs.YtaelnglalpiemaaDoor
open Go.Ab
attribute [local irreducible] Go.Ab.tyAV Go.Ab.aw Go.Ab.aops Go.Ab.kReg Go.Ab.aThen Go.Ab.aBlk Go.Ab.acond Go.Ab.aguard Go.Ab.astep Go.Ab.AStepX Go.Ab.aRet

/-- The bytes of a caveat are not too many. -/
def CaSm (c : Ca) : Prop := c.ticket.length ≤ 100000 ∧ c.box.length ≤ 100000

theorem sameC_spec (x y : Ca) (hx : CaSm x) (hy : CaSm y) (k : Nat) :
    ACall Tryd.prog 57 [caAV x, caAV y] k [] (.lit (.bool (decide (x = y)))) [] := by
  obtain ⟨x1, x2⟩ := hx
  obtain ⟨y1, y2⟩ := hy
  have c1 := Equal_spec x.ticket y.ticket (by omega) (by omega)
  have c2 := Equal_spec x.box y.box (by omega) (by omega)
  have key : decide (x = y) = (decide (x.third = y.third) && (decide (x.first = y.first) && (decide (x.party = y.party) && (decide (x.ticket = y.ticket) && decide (x.box = y.box))))) := by
    obtain ⟨a1, a2, a3, a4, a5⟩ := x
    obtain ⟨b1, b2, b3, b4, b5⟩ := y
    rw [Bool.eq_iff_iff]; simp
  rw [key]
  clear key
  by_cases h1 : x.third = y.third
  · by_cases h2 : x.first = y.first
    · by_cases h3 : x.party = y.party
      · have fh1 : (x.third == y.third) = true := by simp [h1]
        have fh2 : decide (x.first = y.first) = true := decide_eq_true h2
        have fh3 : (x.party == y.party) = true := by simp [h3]
        simp only [decide_eq_true h1, decide_eq_true h2, decide_eq_true h3, Bool.true_and]
        generalize decide (x.ticket = y.ticket) = b1 at *
        generalize decide (x.box = y.box) = b2 at *
        cases b1 <;> simp only [Bool.true_and, Bool.false_and]
        · refine ACall.of_body mixed Tryd.func57 rfl (by kernel_rfl) Tryd.ntmps57 (by kernel_rfl) rfl (by simp) (by simp) (by simp) fun σ N hp hpn hk hkn hfree => ?_
          have hcs := And.intro c1 True.intro
          clear c1 c2
          exact W0
        · refine ACall.of_body mixed Tryd.func57 rfl (by kernel_rfl) Tryd.ntmps57 (by kernel_rfl) rfl (by simp) (by simp) (by simp) fun σ N hp hpn hk hkn hfree => ?_
          have hcs := And.intro c1 (And.intro c2 True.intro)
          clear c1 c2
          exact W0
      · have fh3 : (x.party == y.party) = false := by simp [h3]
        have fh1 : (x.third == y.third) = true := by simp [h1]
        have fh2 : decide (x.first = y.first) = true := decide_eq_true h2
        simp only [decide_eq_true h1, decide_eq_true h2, decide_eq_false h3, Bool.true_and, Bool.false_and]
        refine ACall.of_body mixed Tryd.func57 rfl (by kernel_rfl) Tryd.ntmps57 (by kernel_rfl) rfl (by simp) (by simp) (by simp) fun σ N hp hpn hk hkn hfree => ?_
        clear c1 c2
        exact W0
    · have fh2 : decide (x.first = y.first) = false := decide_eq_false h2
      have fh1 : (x.third == y.third) = true := by simp [h1]
      simp only [decide_eq_true h1, decide_eq_false h2, Bool.true_and, Bool.false_and]
      refine ACall.of_body mixed Tryd.func57 rfl (by kernel_rfl) Tryd.ntmps57 (by kernel_rfl) rfl (by simp) (by simp) (by simp) fun σ N hp hpn hk hkn hfree => ?_
      clear c1 c2
      exact W0
  · have fh1 : (x.third == y.third) = false := by simp [h1]
    simp only [decide_eq_false h1, Bool.true_and, Bool.false_and]
    refine ACall.of_body mixed Tryd.func57 rfl (by kernel_rfl) Tryd.ntmps57 (by kernel_rfl) rfl (by simp) (by simp) (by simp) fun σ N hp hpn hk hkn hfree => ?_
    clear c1 c2
    exact W0

theorem EqualFunc_spec (a b : List Ca) (ha : ∀ c ∈ a, CaSm c) (hb : ∀ c ∈ b, CaSm c) (hal : a.length ≤ 100000) (hbl : b.length ≤ 100000) (k : Nat) :
    ACall Tryd.prog 56 [.slice none (a.map caAV), .slice none (b.map caAV), .fn 57 []] k [] (.lit (.bool (decide (a = b)))) [] := by
  by_cases hl : a.length = b.length
  · refine ACall.of_body mixed Tryd.func56 rfl (by kernel_rfl) Tryd.ntmps56 (by kernel_rfl) rfl (by simp) (by simp) (by simp) fun σ N hp hpn hk hkn hfree => ?_
    refine Wk ?_
    refine go_loopF mixed (by kernel_rfl) [6, 7, 8, 9, 17, 18, 19, 20, 21, 22, 23, 24, 25, 26, 27, 28, 29, 30, 31] [] (fun m_ s_ σ_ n_ => ∃ (u : Nat), m_ = a.length - u ∧ s_ 17 = .lit (.int .i64 u) ∧ (u ≤ a.length) ∧ (a.take u = b.take u)) ⟨_, 0, rfl, WF, WC, WC⟩ ?_
    intro m_1 s_1 σ_1 n_1 hs_1 hf_1 hn_1 hI_1
    obtain ⟨u, hm_1, h1_17, hu, heq⟩ := hI_1
    have h1_1 := (hs_1.at 1 (by decide)).trans WE
    have h1_2 := (hs_1.at 2 (by decide)).trans WE
    have h1_15 := (hs_1.at 15 (by decide)).trans WE
    have h1_16 := (hs_1.at 16 (by decide)).trans WE
    have hlow : ∀ id, id < N → σ_1 id = σ id := fun id hid => (hf_1.at id (by omega) WQ).trans WH
    by_cases hul : u = a.length
    · have : a = b := by
        rw [hul, List.take_length, hl, List.take_length] at heq; exact heq
      rw [decide_eq_true this]
      subst hul
      clear heq this
      exact W0
    · have hui : u < a.length := by omega
      have hub : u < b.length := by omega
      obtain ⟨x, hx⟩ : ∃ x, a[u] = x := ⟨_, rfl⟩
      obtain ⟨y, hy⟩ : ∃ y, b[u] = y := ⟨_, rfl⟩
      have c1 := sameC_spec x y (ha x (by rw [← hx]; exact List.getElem_mem hui)) (hb y (by rw [← hy]; exact List.getElem_mem hub))
      by_cases hxy : x = y
      · have heq2 : a.take (u + 1) = b.take (u + 1) := by
          rw [List.take_add_one, List.take_add_one, List.getElem?_eq_getElem hui, List.getElem?_eq_getElem hub, hx, hy, heq, hxy]
        rw [decide_eq_true hxy] at c1
        have hcs := And.intro c1 True.intro
        clear c1 heq
        refine Wk ?_
        exact ⟨WS, WG, WN, _, (show a.length - (u + 1) < m_1 by omega), u + 1, rfl, WF, WC, WC⟩
      · have hne : a ≠ b := fun e => hxy (by subst e; rw [← hx, ← hy])
        rw [decide_eq_false hne]
        rw [decide_eq_false hxy] at c1
        have hcs := And.intro c1 True.intro
        clear c1 heq
        exact W0
  · have hne : a ≠ b := fun e => hl (by rw [e])
    have hlb : ((a.length : Int) != (b.length : Int)) = true := by simp; omega
    rw [decide_eq_false hne]
    refine ACall.of_body mixed Tryd.func56 rfl (by kernel_rfl) Tryd.ntmps56 (by kernel_rfl) rfl (by simp) (by simp) (by simp) fun σ N hp hpn hk hkn hfree => ?_
    exact W0
theorem Same_cav (a b : List Ca) (ha : ∀ c ∈ a, CaSm c) (hb : ∀ c ∈ b, CaSm c) (hal : a.length ≤ 100000) (hbl : b.length ≤ 100000) (k : Nat) :
    ACall Tryd.prog 20 [.slice none (a.map caAV), .slice none (b.map caAV)] k [] (.lit (.bool (decide (a = b)))) [] := by
  have c1 := EqualFunc_spec a b ha hb hal hbl
  generalize decide (a = b) = r at *
  refine ACall.of_body mixed Tryd.func20 rfl (by kernel_rfl) Tryd.ntmps20 (by kernel_rfl) rfl (by simp) (by simp) (by simp) fun σ N hp hpn hk hkn hfree => ?_
  have hcs := And.intro c1 True.intro
  clear c1
  exact W0
end Go.Proofs.YtaelnglalpiemaaDoor

/- Caveats: the specified Same; Valid. -/
namespace Go.Proofs.YtaelnglalpiemaaDoor
open Go.Ab
attribute [local irreducible] Go.Ab.tyAV Go.Ab.aw Go.Ab.aops Go.Ab.kReg Go.Ab.aThen Go.Ab.aBlk Go.Ab.acond Go.Ab.aguard Go.Ab.astep Go.Ab.AStepX Go.Ab.aRet

set_option maxHeartbeats 4000000 in
theorem refSame_cav (a b : List Ca) (ha : ∀ c ∈ a, CaSm c) (hb : ∀ c ∈ b, CaSm c) (hal : a.length ≤ 100000) (hbl : b.length ≤ 100000) (k : Nat) :
    ACall Tryd.prog 21 [.slice none (a.map caAV), .slice none (b.map caAV)] k [] (.lit (.bool (decide (a = b)))) [] := by
  by_cases hl : a.length = b.length
  · refine ACall.of_body mixed Tryd.func21 rfl (by kernel_rfl) Tryd.ntmps21 (by kernel_rfl) rfl (by simp) (by simp) (by simp) fun σ N hp hpn hk hkn hfree => ?_
    refine Wk ?_
    refine go_loopF mixed (by kernel_rfl) [4, 5, 6, 7, 13, 14, 15, 16, 17, 18, 19, 20, 21, 22, 23, 24, 25, 26, 27, 28, 29, 30, 31, 32, 33, 34, 35, 36, 37, 38, 39, 40, 41, 42, 43, 44, 45, 46, 47, 48, 49, 50, 51, 52, 53, 54, 55, 56, 57, 58, 59, 60, 61] [] (fun m_ s_ σ_ n_ => ∃ (u : Nat), m_ = a.length - u ∧ s_ 5 = .lit (.int .i64 u) ∧ (u ≤ a.length) ∧ (a.take u = b.take u)) ⟨_, 0, rfl, WF, WC, WC⟩ ?_
    intro m_1 s_1 σ_1 n_1 hs_1 hf_1 hn_1 hI_1
    obtain ⟨u, hm_1, h1_5, hu, heq⟩ := hI_1
    have h1_0 := (hs_1.at 0 (by decide)).trans WE
    have h1_1 := (hs_1.at 1 (by decide)).trans WE
    have hlow : ∀ id, id < N → σ_1 id = σ id := fun id hid => (hf_1.at id (by omega) WQ).trans WH
    by_cases hul : u = a.length
    · have : a = b := by
        rw [hul, List.take_length, hl, List.take_length] at heq; exact heq
      rw [decide_eq_true this]
      subst hul
      clear heq this
      exact W0
    · have hui : u < a.length := by omega
      have hub : u < b.length := by omega
      obtain ⟨x, hx⟩ : ∃ x, a[u] = x := ⟨_, rfl⟩
      obtain ⟨y, hy⟩ : ∃ y, b[u] = y := ⟨_, rfl⟩
      obtain ⟨x1, x2⟩ := ha x (by rw [← hx]; exact List.getElem_mem hui)
      obtain ⟨y1, y2⟩ := hb y (by rw [← hy]; exact List.getElem_mem hub)
      have hne : ¬ x = y → a ≠ b := fun hxy e => hxy (by subst e; rw [← hx, ← hy])
      have heq2 : x = y → a.take (u + 1) = b.take (u + 1) := fun hxy => by
        rw [List.take_add_one, List.take_add_one, List.getElem?_eq_getElem hui, List.getElem?_eq_getElem hub, hx, hy, heq, hxy]
      have c1 := Same_spec x.ticket y.ticket (by omega)
      have c2 := Same_spec x.box y.box (by omega)
      clear heq ha hb
      by_cases h1 : x.third = y.third
      rotate_left
      · rw [decide_eq_false (hne (fun e => h1 (by rw [e])))]
        have f1 : (x.third == y.third) = false := by simp [h1]
        clear c1 c2 hne heq2
        exact W0
      by_cases h2 : x.first = y.first
      rotate_left
      · rw [decide_eq_false (hne (fun e => h2 (by rw [e])))]
        have f1 : (x.third == y.third) = true := by simp [h1]
        have f2 : decide (x.first = y.first) = false := decide_eq_false h2
        clear c1 c2 hne heq2
        exact W0
      by_cases h3 : x.party = y.party
      rotate_left
      · rw [decide_eq_false (hne (fun e => h3 (by rw [e])))]
        have f1 : (x.third == y.third) = true := by simp [h1]
        have f2 : decide (x.first = y.first) = true := decide_eq_true h2
        have f3 : (x.party != y.party) = true := by simp [h3]
        clear c1 c2 hne heq2
        exact W0
      have f1 : (x.third == y.third) = true := by simp [h1]
      have f2 : decide (x.first = y.first) = true := decide_eq_true h2
      have f3 : (x.party != y.party) = false := by simp [h3]
      by_cases h4 : x.ticket = y.ticket
      rotate_left
      · rw [decide_eq_false h4] at c1
        rw [decide_eq_false (hne (fun e => h4 (by rw [e])))]
        have hcs := And.intro c1 True.intro
        clear c1 c2 hne heq2
        exact W0
      rw [decide_eq_true h4] at c1
      by_cases h5 : x.box = y.box
      rotate_left
      · rw [decide_eq_false h5] at c2
        rw [decide_eq_false (hne (fun e => h5 (by rw [e])))]
        have hcs := And.intro c1 (And.intro c2 True.intro)
        clear c1 c2 hne heq2
        exact W0
      rw [decide_eq_true h5] at c2
      have hxy : x = y := by
        obtain ⟨p1, p2, p3, p4, p5⟩ := x
        obtain ⟨q1, q2, q3, q4, q5⟩ := y
        simp only at h1 h2 h3 h4 h5
        rw [h1, h2, h3, h4, h5]
      have heq3 := heq2 hxy
      have hcs := And.intro c1 (And.intro c2 True.intro)
      clear c1 c2 hne heq2 hxy
      refine Wk ?_
      exact ⟨WS, WG, WN, _, (show a.length - (u + 1) < m_1 by omega), u + 1, rfl, WF, WC, WC⟩
  · have hne : a ≠ b := fun e => hl (by rw [e])
    have hlb : ((a.length : Int) != (b.length : Int)) = true := by simp; omega
    rw [decide_eq_false hne]
    refine ACall.of_body mixed Tryd.func21 rfl (by kernel_rfl) Tryd.ntmps21 (by kernel_rfl) rfl (by simp) (by simp) (by simp) fun σ N hp hpn hk hkn hfree => ?_
    exact W0

def sizedB (b : List UInt8) : Bool := decide (1 ≤ b.length) && decide (b.length ≤ 1024)
theorem sized_spec (b : List UInt8) (k : Nat) : ACall Tryd.prog 54 [.slice none (b.map byteAV)] k [] (.lit (.bool (sizedB b))) [] := by
  unfold sizedB
  by_cases h : 1 ≤ b.length
  · have hi : (1 : Int) ≤ (b.length : Int) := by omega
    rw [decide_eq_true h, Bool.true_and]
    by_cases h2 : b.length ≤ 1024
    · have hi2 : (b.length : Int) ≤ 1024 := by omega
      rw [decide_eq_true h2]
      refine ACall.of_body mixed Tryd.func54 rfl (by kernel_rfl) Tryd.ntmps54 (by kernel_rfl) rfl (by simp) (by simp) (by simp) fun σ N hp hpn hk hkn hfree => ?_
      exact W0
    · have hi2 : ¬ (b.length : Int) ≤ 1024 := by omega
      rw [decide_eq_false h2]
      refine ACall.of_body mixed Tryd.func54 rfl (by kernel_rfl) Tryd.ntmps54 (by kernel_rfl) rfl (by simp) (by simp) (by simp) fun σ N hp hpn hk hkn hfree => ?_
      exact W0
  · have hi : ¬ (1 : Int) ≤ (b.length : Int) := by omega
    rw [decide_eq_false h, Bool.false_and]
    refine ACall.of_body mixed Tryd.func54 rfl (by kernel_rfl) Tryd.ntmps54 (by kernel_rfl) rfl (by simp) (by simp) (by simp) fun σ N hp hpn hk hkn hfree => ?_
    exact W0

def zeroPr : Pr := ⟨0, 0, 0, 0, [], 0⟩
def cavB (c : Ca) : Bool :=
  if c.third = false then predB c.first && (decide (c.party = 0) && (decide (c.ticket.length = 0) && decide (c.box.length = 0)))
  else decide (c.first = zeroPr) && (decide (0 ≤ c.party) && (decide (c.party ≤ 7) && (sizedB c.ticket && sizedB c.box)))
@[go_sem high] theorem ev_pr_eqz (a : Pr) :
    evBin Tryd.prog .eql 24 (prAV a) (.agg [.lit (.int .i64 0), .lit (.int .u64 0), .lit (.int .i64 0), .lit (.int .i64 0), .lit (.string ByteArray.empty), .lit (.int .i64 0)]) =
      some ⟨[], .lit (.bool (decide (a = zeroPr))), []⟩ := ev_pr_eq a zeroPr
set_option maxHeartbeats 4000000 in
theorem cavValid_spec (c : Ca) (hp0 : PrOk c.first) (d k : Nat) :
    ACall Tryd.prog 15 [caAV c] k [(d, bitsG)] (.lit (.bool (cavB c))) [] := by
  have c1 := predValid_spec c.first hp0 d
  have c2 := sized_spec c.ticket
  have c3 := sized_spec c.box
  unfold cavB
  cases ht : c.third with
  | false =>
    simp only [if_true]
    generalize predB c.first = b at *
    cases b <;> simp only [Bool.true_and, Bool.false_and]
    · refine ACall.of_body mixed Tryd.func15 rfl (by kernel_rfl) Tryd.ntmps15 (by kernel_rfl) rfl (by simp) (by simp) (by simp) fun σ N hp hpn hk hkn hfree => ?_
      have hd := hp _ (List.mem_singleton.2 rfl); have hdn := hpn _ (List.mem_singleton.2 rfl); simp only at hd hdn; clear hp hpn
      have hcs := And.intro c1 True.intro
      clear c1 c2 c3
      exact W0
    · by_cases g1 : c.party = 0
      · have kg1 : (c.party == 0) = true := by simp [g1]
        by_cases g2 : c.ticket.length = 0
        · have kg2 : ((c.ticket.length : Int) == 0) = true := by simp [g2]
          by_cases g3 : c.box.length = 0
          · have kg3 : ((c.box.length : Int) == 0) = true := by simp [g3]
            simp only [decide_eq_true g1, decide_eq_true g2, decide_eq_true g3, Bool.true_and]
            refine ACall.of_body mixed Tryd.func15 rfl (by kernel_rfl) Tryd.ntmps15 (by kernel_rfl) rfl (by simp) (by simp) (by simp) fun σ N hp hpn hk hkn hfree => ?_
            have hd := hp _ (List.mem_singleton.2 rfl); have hdn := hpn _ (List.mem_singleton.2 rfl); simp only at hd hdn; clear hp hpn
            have hcs := And.intro c1 True.intro
            clear c1 c2 c3
            exact W0
          · have kg3 : ((c.box.length : Int) == 0) = false := by rw [beq_eq_false_iff_ne]; omega
            simp only [decide_eq_true g1, decide_eq_true g2, decide_eq_false g3, Bool.true_and]
            refine ACall.of_body mixed Tryd.func15 rfl (by kernel_rfl) Tryd.ntmps15 (by kernel_rfl) rfl (by simp) (by simp) (by simp) fun σ N hp hpn hk hkn hfree => ?_
            have hd := hp _ (List.mem_singleton.2 rfl); have hdn := hpn _ (List.mem_singleton.2 rfl); simp only at hd hdn; clear hp hpn
            have hcs := And.intro c1 True.intro
            clear c1 c2 c3
            exact W0
        · have kg2 : ((c.ticket.length : Int) == 0) = false := by rw [beq_eq_false_iff_ne]; omega
          simp only [decide_eq_true g1, decide_eq_false g2, Bool.true_and, Bool.false_and]
          refine ACall.of_body mixed Tryd.func15 rfl (by kernel_rfl) Tryd.ntmps15 (by kernel_rfl) rfl (by simp) (by simp) (by simp) fun σ N hp hpn hk hkn hfree => ?_
          have hd := hp _ (List.mem_singleton.2 rfl); have hdn := hpn _ (List.mem_singleton.2 rfl); simp only at hd hdn; clear hp hpn
          have hcs := And.intro c1 True.intro
          clear c1 c2 c3
          exact W0
      · have kg1 : (c.party == 0) = false := by rw [beq_eq_false_iff_ne]; omega
        simp only [decide_eq_false g1, Bool.false_and]
        refine ACall.of_body mixed Tryd.func15 rfl (by kernel_rfl) Tryd.ntmps15 (by kernel_rfl) rfl (by simp) (by simp) (by simp) fun σ N hp hpn hk hkn hfree => ?_
        have hd := hp _ (List.mem_singleton.2 rfl); have hdn := hpn _ (List.mem_singleton.2 rfl); simp only at hd hdn; clear hp hpn
        have hcs := And.intro c1 True.intro
        clear c1 c2 c3
        exact W0
  | true =>
    simp only [Bool.true_eq_false, if_false]
    by_cases g1 : c.first = zeroPr
    · by_cases g2 : 0 ≤ c.party
      · by_cases g3 : c.party ≤ 7
        · simp only [decide_eq_true g1, decide_eq_true g2, decide_eq_true g3, Bool.true_and]
          generalize sizedB c.ticket = s1 at *
          generalize sizedB c.box = s2 at *
          cases s1 <;> simp only [Bool.true_and, Bool.false_and]
          · refine ACall.of_body mixed Tryd.func15 rfl (by kernel_rfl) Tryd.ntmps15 (by kernel_rfl) rfl (by simp) (by simp) (by simp) fun σ N hp hpn hk hkn hfree => ?_
            have hd := hp _ (List.mem_singleton.2 rfl); have hdn := hpn _ (List.mem_singleton.2 rfl); simp only at hd hdn; clear hp hpn
            have hcs := And.intro c2 True.intro
            clear c1 c2 c3
            exact W0
          · refine ACall.of_body mixed Tryd.func15 rfl (by kernel_rfl) Tryd.ntmps15 (by kernel_rfl) rfl (by simp) (by simp) (by simp) fun σ N hp hpn hk hkn hfree => ?_
            have hd := hp _ (List.mem_singleton.2 rfl); have hdn := hpn _ (List.mem_singleton.2 rfl); simp only at hd hdn; clear hp hpn
            have hcs := And.intro c2 (And.intro c3 True.intro)
            clear c1 c2 c3
            exact W0
        · simp only [decide_eq_true g1, decide_eq_true g2, decide_eq_false g3, Bool.true_and, Bool.false_and]
          refine ACall.of_body mixed Tryd.func15 rfl (by kernel_rfl) Tryd.ntmps15 (by kernel_rfl) rfl (by simp) (by simp) (by simp) fun σ N hp hpn hk hkn hfree => ?_
          have hd := hp _ (List.mem_singleton.2 rfl); have hdn := hpn _ (List.mem_singleton.2 rfl); simp only at hd hdn; clear hp hpn
          clear c1 c2 c3
          exact W0
      · simp only [decide_eq_true g1, decide_eq_false g2, Bool.true_and, Bool.false_and]
        refine ACall.of_body mixed Tryd.func15 rfl (by kernel_rfl) Tryd.ntmps15 (by kernel_rfl) rfl (by simp) (by simp) (by simp) fun σ N hp hpn hk hkn hfree => ?_
        have hd := hp _ (List.mem_singleton.2 rfl); have hdn := hpn _ (List.mem_singleton.2 rfl); simp only at hd hdn; clear hp hpn
        clear c1 c2 c3
        exact W0
    · simp only [decide_eq_false g1, Bool.false_and]
      refine ACall.of_body mixed Tryd.func15 rfl (by kernel_rfl) Tryd.ntmps15 (by kernel_rfl) rfl (by simp) (by simp) (by simp) fun σ N hp hpn hk hkn hfree => ?_
      have hd := hp _ (List.mem_singleton.2 rfl); have hdn := hpn _ (List.mem_singleton.2 rfl); simp only at hd hdn; clear hp hpn
      clear c1 c2 c3
      exact W0
set_option maxHeartbeats 4000000 in
theorem refCav_spec (c : Ca) (hp0 : PrOk c.first) (k : Nat) :
    ACall Tryd.prog 16 [caAV c] k [] (.lit (.bool (cavB c))) [] := by
  have c1 := refPred_spec c.first hp0
  unfold cavB
  cases ht : c.third with
  | false =>
    simp only [if_true]
    generalize predB c.first = b at *
    cases b <;> simp only [Bool.true_and, Bool.false_and]
    · refine ACall.of_body mixed Tryd.func16 rfl (by kernel_rfl) Tryd.ntmps16 (by kernel_rfl) rfl (by simp) (by simp) (by simp) fun σ N hp hpn hk hkn hfree => ?_
      have hcs := And.intro c1 True.intro
      clear c1
      exact W0
    · by_cases g1 : c.party = 0
      · have kg1 : (c.party == 0) = true := by simp [g1]
        by_cases g2 : c.ticket.length = 0
        · have kg2 : ((c.ticket.length : Int) == 0) = true := by simp [g2]
          by_cases g3 : c.box.length = 0
          · have kg3 : ((c.box.length : Int) == 0) = true := by simp [g3]
            simp only [decide_eq_true g1, decide_eq_true g2, decide_eq_true g3, Bool.true_and]
            refine ACall.of_body mixed Tryd.func16 rfl (by kernel_rfl) Tryd.ntmps16 (by kernel_rfl) rfl (by simp) (by simp) (by simp) fun σ N hp hpn hk hkn hfree => ?_
            have hcs := And.intro c1 True.intro
            clear c1
            exact W0
          · have kg3 : ((c.box.length : Int) == 0) = false := by rw [beq_eq_false_iff_ne]; omega
            simp only [decide_eq_true g1, decide_eq_true g2, decide_eq_false g3, Bool.true_and]
            refine ACall.of_body mixed Tryd.func16 rfl (by kernel_rfl) Tryd.ntmps16 (by kernel_rfl) rfl (by simp) (by simp) (by simp) fun σ N hp hpn hk hkn hfree => ?_
            have hcs := And.intro c1 True.intro
            clear c1
            exact W0
        · have kg2 : ((c.ticket.length : Int) == 0) = false := by rw [beq_eq_false_iff_ne]; omega
          simp only [decide_eq_true g1, decide_eq_false g2, Bool.true_and, Bool.false_and]
          refine ACall.of_body mixed Tryd.func16 rfl (by kernel_rfl) Tryd.ntmps16 (by kernel_rfl) rfl (by simp) (by simp) (by simp) fun σ N hp hpn hk hkn hfree => ?_
          have hcs := And.intro c1 True.intro
          clear c1
          exact W0
      · have kg1 : (c.party == 0) = false := by rw [beq_eq_false_iff_ne]; omega
        simp only [decide_eq_false g1, Bool.false_and]
        refine ACall.of_body mixed Tryd.func16 rfl (by kernel_rfl) Tryd.ntmps16 (by kernel_rfl) rfl (by simp) (by simp) (by simp) fun σ N hp hpn hk hkn hfree => ?_
        have hcs := And.intro c1 True.intro
        clear c1
        exact W0
  | true =>
    simp only [Bool.true_eq_false, if_false]
    unfold sizedB
    by_cases g1 : c.first = zeroPr
    · by_cases g2 : 0 ≤ c.party
      · by_cases g3 : c.party ≤ 7
        · by_cases g4 : 1 ≤ c.ticket.length
          · have kg4 : 1 ≤ (c.ticket.length : Int) := by omega
            by_cases g5 : c.ticket.length ≤ 1024
            · have kg5 : (c.ticket.length : Int) ≤ 1024 := by omega
              by_cases g6 : 1 ≤ c.box.length
              · have kg6 : 1 ≤ (c.box.length : Int) := by omega
                by_cases g7 : c.box.length ≤ 1024
                · have kg7 : (c.box.length : Int) ≤ 1024 := by omega
                  simp only [decide_eq_true g1, decide_eq_true g2, decide_eq_true g3, decide_eq_true g4, decide_eq_true g5, decide_eq_true g6, decide_eq_true g7, Bool.true_and]
                  refine ACall.of_body mixed Tryd.func16 rfl (by kernel_rfl) Tryd.ntmps16 (by kernel_rfl) rfl (by simp) (by simp) (by simp) fun σ N hp hpn hk hkn hfree => ?_
                  clear c1
                  exact W0
                · have kg7 : ¬ (c.box.length : Int) ≤ 1024 := by omega
                  simp only [decide_eq_true g1, decide_eq_true g2, decide_eq_true g3, decide_eq_true g4, decide_eq_true g5, decide_eq_true g6, decide_eq_false g7, Bool.true_and]
                  refine ACall.of_body mixed Tryd.func16 rfl (by kernel_rfl) Tryd.ntmps16 (by kernel_rfl) rfl (by simp) (by simp) (by simp) fun σ N hp hpn hk hkn hfree => ?_
                  clear c1
                  exact W0
              · have kg6 : ¬ 1 ≤ (c.box.length : Int) := by omega
                simp only [decide_eq_true g1, decide_eq_true g2, decide_eq_true g3, decide_eq_true g4, decide_eq_true g5, decide_eq_false g6, Bool.true_and, Bool.false_and]
                refine ACall.of_body mixed Tryd.func16 rfl (by kernel_rfl) Tryd.ntmps16 (by kernel_rfl) rfl (by simp) (by simp) (by simp) fun σ N hp hpn hk hkn hfree => ?_
                clear c1
                exact W0
            · have kg5 : ¬ (c.ticket.length : Int) ≤ 1024 := by omega
              simp only [decide_eq_true g1, decide_eq_true g2, decide_eq_true g3, decide_eq_true g4, decide_eq_false g5, Bool.true_and, Bool.false_and]
              refine ACall.of_body mixed Tryd.func16 rfl (by kernel_rfl) Tryd.ntmps16 (by kernel_rfl) rfl (by simp) (by simp) (by simp) fun σ N hp hpn hk hkn hfree => ?_
              clear c1
              exact W0
          · have kg4 : ¬ 1 ≤ (c.ticket.length : Int) := by omega
            simp only [decide_eq_true g1, decide_eq_true g2, decide_eq_true g3, decide_eq_false g4, Bool.true_and, Bool.false_and]
            refine ACall.of_body mixed Tryd.func16 rfl (by kernel_rfl) Tryd.ntmps16 (by kernel_rfl) rfl (by simp) (by simp) (by simp) fun σ N hp hpn hk hkn hfree => ?_
            clear c1
            exact W0
        · simp only [decide_eq_true g1, decide_eq_true g2, decide_eq_false g3, Bool.true_and, Bool.false_and]
          refine ACall.of_body mixed Tryd.func16 rfl (by kernel_rfl) Tryd.ntmps16 (by kernel_rfl) rfl (by simp) (by simp) (by simp) fun σ N hp hpn hk hkn hfree => ?_
          clear c1
          exact W0
      · simp only [decide_eq_true g1, decide_eq_false g2, Bool.true_and, Bool.false_and]
        refine ACall.of_body mixed Tryd.func16 rfl (by kernel_rfl) Tryd.ntmps16 (by kernel_rfl) rfl (by simp) (by simp) (by simp) fun σ N hp hpn hk hkn hfree => ?_
        clear c1
        exact W0
    · simp only [decide_eq_false g1, Bool.false_and]
      refine ACall.of_body mixed Tryd.func16 rfl (by kernel_rfl) Tryd.ntmps16 (by kernel_rfl) rfl (by simp) (by simp) (by simp) fun σ N hp hpn hk hkn hfree => ?_
      clear c1
      exact W0
end Go.Proofs.YtaelnglalpiemaaDoor

/- Shared: slices.Clone of bytes, the bytes of a number, varint.Append. -/
namespace Go.Proofs.YtaelnglalpiemaaDoor
open Go.Ab
attribute [local irreducible] Go.Ab.tyAV Go.Ab.aw Go.Ab.aops Go.Ab.kReg Go.Ab.aThen Go.Ab.aBlk Go.Ab.acond Go.Ab.aguard Go.Ab.astep Go.Ab.AStepX Go.Ab.aRet

attribute [go_sem] bytes_all1 bytes_all2 List.isEmpty_map

theorem SClone_cons (bs : List UInt8) (he : bs.isEmpty = false) (hl : bs.length ≤ 100000000) (k : Nat) :
    ACall Tryd.prog 97 [.slice none (bs.map byteAV)] k [] (.slice (some k) (bs.map byteAV)) [(k, .row 5 1 bs.length)] := by
  refine ACall.of_body mixed Tryd.func97 rfl (by kernel_rfl) Tryd.ntmps97 (by kernel_rfl) rfl (by simp) (by simp) (by simp) fun σ N hp hpn hk hkn hfree => ?_
  refine Wk ?_
  refine go_result1 (r0 := N+3) (by simp (disch := omega) [go_sem, *, -List.reduceReplicate]; rfl) (by omega) (by simp (disch := omega) [go_sem]; try rfl) (fun id hid => by simp (disch := omega) only [upd_ne, wr_cons, wr_nil]; try exact hlow id hid) (by simp (disch := omega) only [upd_same, upd_ne]; rfl) (by simp (disch := omega) [go_sem])

theorem SClone_nil (c k : Nat) : ACall Tryd.prog 97 [.lit (.slice none 0 c)] k [] .nils [] := by
  refine ACall.of_body mixed Tryd.func97 rfl (by kernel_rfl) Tryd.ntmps97 (by kernel_rfl) rfl (by simp) (by simp) (by simp) fun σ N hp hpn hk hkn hfree => ?_
  exact W0

theorem SClone_empty (A : Addr) (c k : Nat) : ACall Tryd.prog 97 [.lit (.slice (some A) 0 c)] k [] (.slice (some k) []) [(k, .row 5 1 0)] := by
  refine ACall.of_body mixed Tryd.func97 rfl (by kernel_rfl) Tryd.ntmps97 (by kernel_rfl) rfl (by simp) (by simp) (by simp) fun σ N hp hpn hk hkn hfree => ?_
  refine Wk ?_
  refine go_result1 (r0 := N+3) (by simp (disch := omega) [go_sem, *, -List.reduceReplicate]; rfl) (by omega) (by simp (disch := omega) [go_sem]; try rfl) (fun id hid => by simp (disch := omega) only [upd_ne, wr_cons, wr_nil]; try exact hlow id hid) (by simp (disch := omega) only [upd_same, upd_ne]; rfl) (by simp (disch := omega) [go_sem])

theorem SClone_spec (bs : List UInt8) (hl : bs.length ≤ 100000000) (k : Nat) :
    ACall Tryd.prog 97 [.slice none (bs.map byteAV)] k [] (.slice (some k) (bs.map byteAV)) [(k, .row 5 1 bs.length)] := by
  cases bs with
  | cons b r => exact SClone_cons (b :: r) rfl hl k
  | nil =>
    refine ACall.empty fun A c => ?_
    cases A with
    | none => exact ACall.nilrow (SClone_nil c k)
    | some A => exact SClone_empty A c k

/-- The byte of a number. -/
def u8 (n : Nat) : UInt8 := UInt8.ofNat n
def leb (n : Nat) : List UInt8 := if h : n < 128 then [u8 n] else u8 (n % 128 + 128) :: leb (n / 128)
termination_by n

theorem leb_small {n : Nat} (h : n < 128) : leb n = [u8 n] := by rw [leb, dif_pos h]
theorem leb_big {n : Nat} (h : ¬ n < 128) : leb n = u8 (n % 128 + 128) :: leb (n / 128) := by rw [leb, dif_neg h]
theorem leb_len (n : Nat) : ∀ k, n < 128 ^ k → (leb n).length ≤ k + 1 := by
  induction n using Nat.strongRecOn with
  | _ n ih =>
    intro k hk
    by_cases h : n < 128
    · rw [leb_small h]; simp
    · rw [leb_big h]
      cases k with
      | zero => simp at hk; omega
      | succ k =>
        have := ih (n / 128) (by omega) k (by rw [Nat.pow_succ] at hk; omega)
        simp; omega
theorem byteAV_ofNat {n : Nat} (h : n < 256) : byteAV (u8 n) = .lit (.int .u8 n) := by
  simp only [byteAV, u8]
  rw [UInt8.toNat_ofNat', Nat.mod_eq_of_lt h]

theorem Number_spec (n k : Nat) (hn : n < 128 ^ 9) : ACall Tryd.prog 72 [.lit (.int .i64 n)] k [] (.slice (some k) ((leb n).map byteAV)) [(k, .row 5 1 (leb n).length)] := by
  have hl := leb_len n 9 hn
  refine ACall.of_body mixed Tryd.func72 rfl (by kernel_rfl) Tryd.ntmps72 (by kernel_rfl) rfl (by simp) (by simp) (by simp) fun σ N hp hpn hk hkn hfree => ?_
  refine Wk ?_
  refine go_loop (ALoop.nilrow 3 5 1 (by simp (disch := omega) [go_sem, *, -List.reduceReplicate]) ?_)
  refine aloop mixed (by kernel_rfl) (fun c => ∃ (m : Nat) (acc : List UInt8), c.s 0 = .lit (.int .i64 m) ∧ c.s 3 = .slice (some (N + 2)) (acc.map byteAV) ∧ c.σ (N + 2) = .row 5 1 acc.length ∧ N + 3 ≤ c.n ∧ (∀ id, id < N → c.σ id = σ id) ∧ acc ++ leb m = leb n ∧ m < 128 ^ 9)
    (fun c => match c.s 0 with | .lit (.int _ m) => m.toNat | _ => 0) ⟨n, [], by simp (disch := omega) [go_sem, *, -List.reduceReplicate], by simp (disch := omega) [go_sem, *, -List.reduceReplicate], by simp (disch := omega) [go_sem, *, -List.reduceReplicate], by simp, by intro id hid; simp (disch := omega) only [upd_ne], rfl, hn⟩ ?_
  rintro ⟨s, σ', n'⟩ ⟨m, acc, h0, h3, hr, hn', hlow, hacc, hm⟩
  simp only at h0 h3 hr hn' hlow
  have hal : acc.length ≤ 10 := by rw [← hacc, List.length_append] at hl; omega
  refine Wk ?_
  by_cases h : m < 128
  · refine go_condF (by simp (disch := omega) [go_sem, *, -List.reduceReplicate]; try first | rfl | omega) ?_
    refine Wk ?_
    have hfin : (leb n).map byteAV = acc.map byteAV ++ [.lit (.int .u8 (IntKind.u8.wrap (m : Int)))] := by
      rw [← hacc, leb_small h, List.map_append, List.map_cons, List.map_nil, byteAV_ofNat (by omega), IntKind.wrap_u8, Int.emod_eq_of_lt (by omega) (by omega)]
    have hlen : (leb n).length = acc.length + 1 := by rw [← hacc, leb_small h]; simp
    rw [hfin, hlen]
    refine go_result1 (r0 := N+2) (by simp (disch := omega) [go_sem, *, -List.reduceReplicate]; rfl) (by omega) (by simp (disch := omega) [go_sem]; try rfl) (fun id hid => by simp (disch := omega) only [upd_ne, wr_cons, wr_nil]; try exact hlow id hid) (by simp (disch := omega) only [upd_same, upd_ne]; rfl) (by simp (disch := omega) [go_sem])
  · have ht : (m : Int).tmod 128 = (m : Int) % 128 := Int.tmod_eq_emod_of_nonneg (by omega)
    have hb : IntKind.u8.wrap ((m : Int) % 128 + 128) = (m : Int) % 128 + 128 := by rw [IntKind.wrap_u8]; omega
    have hbv : byteAV (u8 (m % 128 + 128)) = .lit (.int .u8 ((m : Int) % 128 + 128)) := by rw [byteAV_ofNat (by omega)]; simp
    refine Wk ?_
    refine ⟨⟨m / 128, acc ++ [u8 (m % 128 + 128)], by simp (disch := omega) [go_sem, *, -List.reduceReplicate], by simp (disch := omega) [go_sem, *, -List.reduceReplicate], by simp (disch := omega) [go_sem, *, -List.reduceReplicate], by simp only; omega, (fun id hid => by simp (disch := omega) only [upd_ne, wr_cons, wr_nil]; try exact hlow id hid), by rw [← hacc, leb_big h]; simp, by omega⟩, ?_⟩
    simp (disch := omega) [go_sem, *, -List.reduceReplicate]
    omega

theorem Append_bad (bs : List UInt8) (n : Int) (h : n < 0 ∨ 281474976710656 < n) (k : Nat) : ACall Tryd.prog 69 [.slice none (bs.map byteAV), .lit (.int .i64 n)] k [] (.tup [.nils, .lit (.int .i64 1)]) [] := by
  by_cases h1 : n < 0
  · refine ACall.of_body mixed Tryd.func69 rfl (by kernel_rfl) Tryd.ntmps69 (by kernel_rfl) rfl (by simp) (by simp) (by simp) fun σ N hp hpn hk hkn hfree => ?_
    exact W0
  · have h2 : 281474976710656 < n := by omega
    refine ACall.of_body mixed Tryd.func69 rfl (by kernel_rfl) Tryd.ntmps69 (by kernel_rfl) rfl (by simp) (by simp) (by simp) fun σ N hp hpn hk hkn hfree => ?_
    exact W0

theorem Append_ok (bs : List UInt8) (hb : bs.length ≤ 10000000) (n : Nat) (h : n ≤ 281474976710656) (k : Nat) :
    ACall Tryd.prog 69 [.slice none (bs.map byteAV), .lit (.int .i64 n)] k [] (.tup [.slice (some k) ((bs ++ leb n).map byteAV), .lit (.int .i64 0)]) [(k, .row 5 1 (bs.length + (leb n).length))] := by
  have hl := leb_len n 7 (by omega)
  have hc := SClone_spec bs (by omega)
  refine ACall.of_body mixed Tryd.func69 rfl (by kernel_rfl) Tryd.ntmps69 (by kernel_rfl) rfl (by simp) (by simp) (by simp) fun σ N hp hpn hk hkn hfree => ?_
  have g1 : ¬ (n : Int) < 0 := by omega
  have g2 : ¬ (281474976710656 : Int) < n := by omega
  have hcs := And.intro hc True.intro
  refine Wk ?_
  refine go_loop (aloop mixed (by kernel_rfl) (fun c => ∃ (m : Nat) (acc : List UInt8), c.s 1 = .lit (.int .i64 m) ∧ c.s 6 = .slice (some (N + 9)) ((bs ++ acc).map byteAV) ∧ c.σ (N + 9) = .row 5 1 (bs.length + acc.length) ∧ N + 10 ≤ c.n ∧ (∀ id, id < N → c.σ id = σ id) ∧ acc ++ leb m = leb n ∧ m ≤ 281474976710656)
    (fun c => match c.s 1 with | .lit (.int _ m) => m.toNat | _ => 0) ⟨n, [], by simp (disch := omega) [go_sem, *, -List.reduceReplicate], by simp (disch := omega) [go_sem, *, -List.reduceReplicate], by simp (disch := omega) [go_sem, *, -List.reduceReplicate], by simp, (fun id hid => by simp (disch := omega) only [upd_ne, wr_cons, wr_nil]; try exact hlow id hid), rfl, h⟩ ?_)
  rintro ⟨s, σ', n'⟩ ⟨m, acc, h0, h3, hr, hn', hlow, hacc, hm⟩
  simp only at h0 h3 hr hn' hlow
  have hal : acc.length ≤ 10 := by rw [← hacc, List.length_append] at hl; omega
  by_cases h : m < 128
  · repeat (first | apply go_nil | apply go_kreg | apply go_kreg0 | apply go_kreg1 | (apply go_kregT; · (first | (simp [addT, CF, CFy, Ind, DisjF]; done) | (simp only [addT, CF, CFy, Ind]; repeat' (first | exact trivial | apply And.intro | exact Or.inl (by decide +kernel) | (refine Or.inr ⟨?_, ?_⟩ <;> (simp; try omega)))))) | apply go_then | apply go_then_exit | apply go_then_ret | apply go_blk | apply go_blk_ret | apply go_blk_here | (apply go_blk_there; · rfl) | apply go_seq | (apply go_region; · (simp only [List.length_cons, List.length_nil, Nat.reduceAdd, Nat.add_assoc]; rfl)) | apply go_skip | apply go_block | apply go_scope | apply go_label | apply go_exit | apply go_ret | (apply go_mut; (· assumption); · (simp (disch := omega) [go_sem, *, -List.reduceReplicate]; first | exact ⟨rfl, rfl⟩ | (simp [go_sem, *]; exact ⟨rfl, rfl⟩))) | (apply go_mutP; (· assumption); · (simp (disch := omega) [go_sem, *, -List.reduceReplicate]; try first | rfl | exact ⟨rfl, rfl⟩ | exact ⟨rfl, rfl, rfl⟩)) | (apply go_guard_in; (· rfl); · (simp (disch := omega) [go_sem, *, -List.reduceReplicate]; try first | rfl | omega)) | (apply go_guard_off; (· rfl); · (simp (disch := omega) [go_sem, *, -List.reduceReplicate]; try first | rfl | omega)) | (apply go_guard_no; (· rfl); · (simp (disch := omega) [go_sem, *, -List.reduceReplicate]; try rfl)) | ((first | apply go_move | apply go_assign | apply go_load | apply go_store | apply go_append | apply go_copy | apply go_copy0 | apply go_clear0 | apply go_slice3 | apply go_indexA); · (simp (disch := omega) [go_sem, *, -List.reduceReplicate]; try first | rfl | exact ⟨rfl, rfl⟩ | exact ⟨rfl, rfl, rfl⟩)) | ((first | apply go_loadv | apply go_append0 | apply go_beyond); · (simp (disch := omega) [go_sem, *, -List.reduceReplicate]; try first | rfl | exact ⟨rfl, rfl⟩ | exact ⟨rfl, rfl, rfl⟩)) | (apply go_appself; · (simp (disch := omega) [go_sem, *, -List.reduceReplicate]; try first | rfl | exact ⟨rfl, rfl⟩ | exact ⟨rfl, rfl, rfl⟩)) | ((first | (apply go_appendz; · rfl) | (apply go_new; · rfl) | (apply go_glob; · assumption) | (apply go_pure; · rfl)); · (simp (disch := omega) [go_sem, *, -List.reduceReplicate]; try first | rfl | exact ⟨rfl, rfl⟩ | exact ⟨rfl, rfl, rfl⟩)) | (apply go_read1; (· rfl); · (simp (disch := omega) [go_sem, *, -List.reduceReplicate]; try first | rfl | exact ⟨rfl, rfl⟩ | exact ⟨rfl, rfl, rfl⟩)) | (apply go_rw1; (· rfl); · (simp (disch := omega) [go_sem, *, -List.reduceReplicate]; try first | rfl | exact ⟨rfl, rfl⟩ | exact ⟨rfl, rfl, rfl⟩)) | (apply go_new1; (· rfl); · (simp (disch := omega) [go_sem, *, -List.reduceReplicate]; try first | rfl | exact ⟨rfl, rfl⟩ | exact ⟨rfl, rfl, rfl⟩)) | (apply go_conv; · (simp (disch := omega) [go_sem, *, -List.reduceReplicate]; try first | rfl | exact ⟨rfl, rfl⟩ | exact ⟨rfl, rfl, rfl⟩)) | ((first | (apply go_new; · rfl) | (apply go_pure; · rfl)); · (simp (disch := omega) [go_sem, *, -List.reduceReplicate]; simp [go_sem, *]; try first | rfl | exact ⟨rfl, rfl⟩)))
    refine Wk ?_
    have hfin : (bs ++ leb n).map byteAV = (bs ++ acc).map byteAV ++ [.lit (.int .u8 (IntKind.u8.wrap (m : Int)))] := by
      rw [← hacc, leb_small h, ← List.append_assoc, List.map_append, List.map_cons, List.map_nil, byteAV_ofNat (by omega), IntKind.wrap_u8, Int.emod_eq_of_lt (by omega) (by omega)]
    have hlen : bs.length + (leb n).length = bs.length + acc.length + 1 := by rw [← hacc, leb_small h]; simp; omega
    rw [hfin, hlen]
    refine go_result1 (r0 := N+9) (by simp (disch := omega) [go_sem, *, -List.reduceReplicate]; rfl) (by omega) (by simp (disch := omega) [go_sem]; try rfl) (fun id hid => by simp (disch := omega) only [upd_ne, wr_cons, wr_nil]; try exact hlow id hid) (by simp (disch := omega) only [upd_same, upd_ne]; rfl) (by simp (disch := omega) [go_sem])
  · have ha : bits .and .i64 (m : Int) 127 = (m : Int) % 128 := i64_and127 _ (by omega) (by omega)
    have ho : bits .or .i64 ((m : Int) % 128) 128 = (m : Int) % 128 + 128 := i64_or128 _ (by omega) (by omega)
    have hs : (m : Int).fdiv 128 = (m : Int) / 128 := by rw [Int.fdiv_eq_ediv]; simp
    have hb : IntKind.u8.wrap ((m : Int) % 128 + 128) = (m : Int) % 128 + 128 := by rw [IntKind.wrap_u8]; omega
    have hbv : byteAV (u8 (m % 128 + 128)) = .lit (.int .u8 ((m : Int) % 128 + 128)) := by rw [byteAV_ofNat (by omega)]; simp
    refine Wk ?_
    refine ⟨⟨m / 128, acc ++ [u8 (m % 128 + 128)], by simp (disch := omega) [go_sem, *, -List.reduceReplicate], by simp (disch := omega) [go_sem, *, -List.reduceReplicate], by simp (disch := omega) [go_sem, *, -List.reduceReplicate]; omega, by simp only; omega, (fun id hid => by simp (disch := omega) only [upd_ne, wr_cons, wr_nil]; try exact hlow id hid), by rw [← hacc, leb_big h]; simp, by omega⟩, ?_⟩
    simp (disch := omega) [go_sem, *, -List.reduceReplicate]
    omega

theorem Number_spec_f (n k : Nat) (hn : n < 128 ^ 9) : ACall Tryd.prog 72 [.lit (.int .i64 n)] k [] (.slice none ((leb n).map byteAV)) [] := by
  have hl := leb_len n 9 hn
  refine ACall.of_body mixed Tryd.func72 rfl (by kernel_rfl) Tryd.ntmps72 (by kernel_rfl) rfl (by simp) (by simp) (by simp) fun σ N hp hpn hk hkn hfree => ?_
  refine Wk ?_
  refine go_loop (ALoop.nilrow 3 5 1 (by simp (disch := omega) [go_sem, *, -List.reduceReplicate]) ?_)
  refine aloop mixed (by kernel_rfl) (fun c => ∃ (m : Nat) (acc : List UInt8), c.s 0 = .lit (.int .i64 m) ∧ c.s 3 = .slice (some (N + 2)) (acc.map byteAV) ∧ c.σ (N + 2) = .row 5 1 acc.length ∧ N + 3 ≤ c.n ∧ (∀ id, id < N → c.σ id = σ id) ∧ acc ++ leb m = leb n ∧ m < 128 ^ 9)
    (fun c => match c.s 0 with | .lit (.int _ m) => m.toNat | _ => 0) ⟨n, [], by simp (disch := omega) [go_sem, *, -List.reduceReplicate], by simp (disch := omega) [go_sem, *, -List.reduceReplicate], by simp (disch := omega) [go_sem, *, -List.reduceReplicate], by simp, by intro id hid; simp (disch := omega) only [upd_ne], rfl, hn⟩ ?_
  rintro ⟨s, σ', n'⟩ ⟨m, acc, h0, h3, hr, hn', hlow, hacc, hm⟩
  simp only at h0 h3 hr hn' hlow
  have hal : acc.length ≤ 10 := by rw [← hacc, List.length_append] at hl; omega
  refine Wk ?_
  by_cases h : m < 128
  · refine go_condF (by simp (disch := omega) [go_sem, *, -List.reduceReplicate]; try first | rfl | omega) ?_
    refine Wk ?_
    have hfin : (leb n).map byteAV = acc.map byteAV ++ [.lit (.int .u8 (IntKind.u8.wrap (m : Int)))] := by
      rw [← hacc, leb_small h, List.map_append, List.map_cons, List.map_nil, byteAV_ofNat (by omega), IntKind.wrap_u8, Int.emod_eq_of_lt (by omega) (by omega)]
    have hlen : (leb n).length = acc.length + 1 := by rw [← hacc, leb_small h]; simp
    rw [hfin]
    refine go_resultI (by simp (disch := omega) [go_sem, *, -List.reduceReplicate]; rfl) (by first | exact AV.le_refl _ | ((first | apply AV.le_slices | apply AV.le_nilsE | apply AV.le_clipE); first | rfl | (simp (disch := omega) [go_sem, *, -List.reduceReplicate]; done))) (by simp (disch := omega) [go_sem]; try rfl) (fun id hid => by simp (disch := omega) only [upd_ne, wr_cons, wr_nil]; try exact hlow id hid)
  · have ht : (m : Int).tmod 128 = (m : Int) % 128 := Int.tmod_eq_emod_of_nonneg (by omega)
    have hb : IntKind.u8.wrap ((m : Int) % 128 + 128) = (m : Int) % 128 + 128 := by rw [IntKind.wrap_u8]; omega
    have hbv : byteAV (u8 (m % 128 + 128)) = .lit (.int .u8 ((m : Int) % 128 + 128)) := by rw [byteAV_ofNat (by omega)]; simp
    refine Wk ?_
    refine ⟨⟨m / 128, acc ++ [u8 (m % 128 + 128)], by simp (disch := omega) [go_sem, *, -List.reduceReplicate], by simp (disch := omega) [go_sem, *, -List.reduceReplicate], by simp (disch := omega) [go_sem, *, -List.reduceReplicate], by simp only; omega, (fun id hid => by simp (disch := omega) only [upd_ne, wr_cons, wr_nil]; try exact hlow id hid), by rw [← hacc, leb_big h]; simp, by omega⟩, ?_⟩
    simp (disch := omega) [go_sem, *, -List.reduceReplicate]
    omega

theorem Append_ok_f (bs : List UInt8) (hb : bs.length ≤ 10000000) (n : Nat) (h : n ≤ 281474976710656) (k : Nat) :
    ACall Tryd.prog 69 [.slice none (bs.map byteAV), .lit (.int .i64 n)] k [] (.tup [.slice none ((bs ++ leb n).map byteAV), .lit (.int .i64 0)]) [] := by
  have hl := leb_len n 7 (by omega)
  have hc := SClone_spec bs (by omega)
  refine ACall.of_body mixed Tryd.func69 rfl (by kernel_rfl) Tryd.ntmps69 (by kernel_rfl) rfl (by simp) (by simp) (by simp) fun σ N hp hpn hk hkn hfree => ?_
  have g1 : ¬ (n : Int) < 0 := by omega
  have g2 : ¬ (281474976710656 : Int) < n := by omega
  have hcs := And.intro hc True.intro
  refine Wk ?_
  refine go_loop (aloop mixed (by kernel_rfl) (fun c => ∃ (m : Nat) (acc : List UInt8), c.s 1 = .lit (.int .i64 m) ∧ c.s 6 = .slice (some (N + 9)) ((bs ++ acc).map byteAV) ∧ c.σ (N + 9) = .row 5 1 (bs.length + acc.length) ∧ N + 10 ≤ c.n ∧ (∀ id, id < N → c.σ id = σ id) ∧ acc ++ leb m = leb n ∧ m ≤ 281474976710656)
    (fun c => match c.s 1 with | .lit (.int _ m) => m.toNat | _ => 0) ⟨n, [], by simp (disch := omega) [go_sem, *, -List.reduceReplicate], by simp (disch := omega) [go_sem, *, -List.reduceReplicate], by simp (disch := omega) [go_sem, *, -List.reduceReplicate], by simp, (fun id hid => by simp (disch := omega) only [upd_ne, wr_cons, wr_nil]; try exact hlow id hid), rfl, h⟩ ?_)
  rintro ⟨s, σ', n'⟩ ⟨m, acc, h0, h3, hr, hn', hlow, hacc, hm⟩
  simp only at h0 h3 hr hn' hlow
  have hal : acc.length ≤ 10 := by rw [← hacc, List.length_append] at hl; omega
  by_cases h : m < 128
  · repeat (first | apply go_nil | apply go_kreg | apply go_kreg0 | apply go_kreg1 | (apply go_kregT; · (first | (simp [addT, CF, CFy, Ind, DisjF]; done) | (simp only [addT, CF, CFy, Ind]; repeat' (first | exact trivial | apply And.intro | exact Or.inl (by decide +kernel) | (refine Or.inr ⟨?_, ?_⟩ <;> (simp; try omega)))))) | apply go_then | apply go_then_exit | apply go_then_ret | apply go_blk | apply go_blk_ret | apply go_blk_here | (apply go_blk_there; · rfl) | apply go_seq | (apply go_region; · (simp only [List.length_cons, List.length_nil, Nat.reduceAdd, Nat.add_assoc]; rfl)) | apply go_skip | apply go_block | apply go_scope | apply go_label | apply go_exit | apply go_ret | (apply go_mut; (· assumption); · (simp (disch := omega) [go_sem, *, -List.reduceReplicate]; first | exact ⟨rfl, rfl⟩ | (simp [go_sem, *]; exact ⟨rfl, rfl⟩))) | (apply go_mutP; (· assumption); · (simp (disch := omega) [go_sem, *, -List.reduceReplicate]; try first | rfl | exact ⟨rfl, rfl⟩ | exact ⟨rfl, rfl, rfl⟩)) | (apply go_guard_in; (· rfl); · (simp (disch := omega) [go_sem, *, -List.reduceReplicate]; try first | rfl | omega)) | (apply go_guard_off; (· rfl); · (simp (disch := omega) [go_sem, *, -List.reduceReplicate]; try first | rfl | omega)) | (apply go_guard_no; (· rfl); · (simp (disch := omega) [go_sem, *, -List.reduceReplicate]; try rfl)) | ((first | apply go_move | apply go_assign | apply go_load | apply go_store | apply go_append | apply go_copy | apply go_copy0 | apply go_clear0 | apply go_slice3 | apply go_indexA); · (simp (disch := omega) [go_sem, *, -List.reduceReplicate]; try first | rfl | exact ⟨rfl, rfl⟩ | exact ⟨rfl, rfl, rfl⟩)) | ((first | apply go_loadv | apply go_append0 | apply go_beyond); · (simp (disch := omega) [go_sem, *, -List.reduceReplicate]; try first | rfl | exact ⟨rfl, rfl⟩ | exact ⟨rfl, rfl, rfl⟩)) | (apply go_appself; · (simp (disch := omega) [go_sem, *, -List.reduceReplicate]; try first | rfl | exact ⟨rfl, rfl⟩ | exact ⟨rfl, rfl, rfl⟩)) | ((first | (apply go_appendz; · rfl) | (apply go_new; · rfl) | (apply go_glob; · assumption) | (apply go_pure; · rfl)); · (simp (disch := omega) [go_sem, *, -List.reduceReplicate]; try first | rfl | exact ⟨rfl, rfl⟩ | exact ⟨rfl, rfl, rfl⟩)) | (apply go_read1; (· rfl); · (simp (disch := omega) [go_sem, *, -List.reduceReplicate]; try first | rfl | exact ⟨rfl, rfl⟩ | exact ⟨rfl, rfl, rfl⟩)) | (apply go_rw1; (· rfl); · (simp (disch := omega) [go_sem, *, -List.reduceReplicate]; try first | rfl | exact ⟨rfl, rfl⟩ | exact ⟨rfl, rfl, rfl⟩)) | (apply go_new1; (· rfl); · (simp (disch := omega) [go_sem, *, -List.reduceReplicate]; try first | rfl | exact ⟨rfl, rfl⟩ | exact ⟨rfl, rfl, rfl⟩)) | (apply go_conv; · (simp (disch := omega) [go_sem, *, -List.reduceReplicate]; try first | rfl | exact ⟨rfl, rfl⟩ | exact ⟨rfl, rfl, rfl⟩)) | ((first | (apply go_new; · rfl) | (apply go_pure; · rfl)); · (simp (disch := omega) [go_sem, *, -List.reduceReplicate]; simp [go_sem, *]; try first | rfl | exact ⟨rfl, rfl⟩)))
    refine Wk ?_
    have hfin : (bs ++ leb n).map byteAV = (bs ++ acc).map byteAV ++ [.lit (.int .u8 (IntKind.u8.wrap (m : Int)))] := by
      rw [← hacc, leb_small h, ← List.append_assoc, List.map_append, List.map_cons, List.map_nil, byteAV_ofNat (by omega), IntKind.wrap_u8, Int.emod_eq_of_lt (by omega) (by omega)]
    have hlen : bs.length + (leb n).length = bs.length + acc.length + 1 := by rw [← hacc, leb_small h]; simp; omega
    rw [hfin]
    refine go_resultI (by simp (disch := omega) [go_sem, *, -List.reduceReplicate]; rfl) (AV.sub_tup (by repeat' first | exact ALe.nil | exact AV.le_refl _ | apply ALe.cons | ((first | apply AV.le_slices | apply AV.le_nilsE | apply AV.le_clipE); first | rfl | (simp (disch := omega) [go_sem, *, -List.reduceReplicate]; done)))) (by simp (disch := omega) [go_sem]; try rfl) (fun id hid => by simp (disch := omega) only [upd_ne, wr_cons, wr_nil]; try exact hlow id hid)
  · have ha : bits .and .i64 (m : Int) 127 = (m : Int) % 128 := i64_and127 _ (by omega) (by omega)
    have ho : bits .or .i64 ((m : Int) % 128) 128 = (m : Int) % 128 + 128 := i64_or128 _ (by omega) (by omega)
    have hs : (m : Int).fdiv 128 = (m : Int) / 128 := by rw [Int.fdiv_eq_ediv]; simp
    have hb : IntKind.u8.wrap ((m : Int) % 128 + 128) = (m : Int) % 128 + 128 := by rw [IntKind.wrap_u8]; omega
    have hbv : byteAV (u8 (m % 128 + 128)) = .lit (.int .u8 ((m : Int) % 128 + 128)) := by rw [byteAV_ofNat (by omega)]; simp
    refine Wk ?_
    refine ⟨⟨m / 128, acc ++ [u8 (m % 128 + 128)], by simp (disch := omega) [go_sem, *, -List.reduceReplicate], by simp (disch := omega) [go_sem, *, -List.reduceReplicate], by simp (disch := omega) [go_sem, *, -List.reduceReplicate]; omega, by simp only; omega, (fun id hid => by simp (disch := omega) only [upd_ne, wr_cons, wr_nil]; try exact hlow id hid), by rw [← hacc, leb_big h]; simp, by omega⟩, ?_⟩
    simp (disch := omega) [go_sem, *, -List.reduceReplicate]
    omega
end Go.Proofs.YtaelnglalpiemaaDoor
