/- Closed facts on the types of this seat's program, each by the kernel (written by facts.py off the given translation). -/
import Derived.Test.YthklokpgjfopnaaRows
import Derived.Test.YthklokpgjfopnaaC1
import Derived.KernelRfl
namespace Go.Proofs.Ythklokpgjfopnaa
open Go.Ab

theorem mixed : Try.prog.follows .mixedOrders = true := by kernel_rfl
@[go_sem] theorem ty1 : tyInfo Try.prog 1 = some (false, 1) := by kernel_rfl
@[go_sem] theorem by1 : byteTy Try.prog 1 = false := by kernel_rfl
@[go_sem] theorem cc1 : Program.concrete Try.prog 1 = true := by kernel_rfl
@[go_sem] theorem st1 : strTy Try.prog 1 = false := by kernel_rfl
@[go_sem] theorem nk1 : nilKind Try.prog 1 = 3 := by kernel_rfl
@[go_sem] theorem zt1 : ztree Try.prog 1 = some (.lit .nilFunc) := by kernel_rfl
@[go_sem] theorem ty2 : tyInfo Try.prog 2 = some (false, 1) := by kernel_rfl
@[go_sem] theorem it2 : intTy Try.prog 2 = some .i64 := by kernel_rfl
@[go_sem] theorem by2 : byteTy Try.prog 2 = false := by kernel_rfl
@[go_sem] theorem cc2 : Program.concrete Try.prog 2 = true := by kernel_rfl
@[go_sem] theorem st2 : strTy Try.prog 2 = false := by kernel_rfl
@[go_sem] theorem zt2 : ztree Try.prog 2 = some (.lit (.int .i64 0)) := by kernel_rfl
@[go_sem] theorem ty3 : tyInfo Try.prog 3 = some (false, 1) := by kernel_rfl
@[go_sem] theorem it3 : intTy Try.prog 3 = some .i64 := by kernel_rfl
@[go_sem] theorem by3 : byteTy Try.prog 3 = false := by kernel_rfl
@[go_sem] theorem cc3 : Program.concrete Try.prog 3 = true := by kernel_rfl
@[go_sem] theorem st3 : strTy Try.prog 3 = false := by kernel_rfl
@[go_sem] theorem zt3 : ztree Try.prog 3 = some (.lit (.int .i64 0)) := by kernel_rfl
@[go_sem] theorem ty4 : tyInfo Try.prog 4 = some (false, 1) := by kernel_rfl
@[go_sem] theorem by4 : byteTy Try.prog 4 = false := by kernel_rfl
@[go_sem] theorem cc4 : Program.concrete Try.prog 4 = true := by kernel_rfl
@[go_sem] theorem st4 : strTy Try.prog 4 = false := by kernel_rfl
@[go_sem] theorem bt4 : boolTy Try.prog 4 = true := by kernel_rfl
@[go_sem] theorem zt4 : ztree Try.prog 4 = some (.lit (.bool false)) := by kernel_rfl
@[go_sem] theorem ty5 : tyInfo Try.prog 5 = some (false, 1) := by kernel_rfl
@[go_sem] theorem it5 : intTy Try.prog 5 = some .u8 := by kernel_rfl
@[go_sem] theorem by5 : byteTy Try.prog 5 = true := by kernel_rfl
@[go_sem] theorem sz1_5 : sizeIs Try.prog 5 1 = true := by kernel_rfl
@[go_sem] theorem cc5 : Program.concrete Try.prog 5 = true := by kernel_rfl
@[go_sem] theorem st5 : strTy Try.prog 5 = false := by kernel_rfl
@[go_sem] theorem zt5 : ztree Try.prog 5 = some (.lit (.int .u8 0)) := by kernel_rfl
@[go_sem] theorem ty9 : tyInfo Try.prog 9 = some (false, 1) := by kernel_rfl
@[go_sem] theorem by9 : byteTy Try.prog 9 = false := by kernel_rfl
@[go_sem] theorem cc9 : Program.concrete Try.prog 9 = true := by kernel_rfl
@[go_sem] theorem st9 : strTy Try.prog 9 = true := by kernel_rfl
@[go_sem] theorem zt9 : ztree Try.prog 9 = some (.lit (.string ByteArray.empty)) := by kernel_rfl
@[go_sem] theorem ty12 : tyInfo Try.prog 12 = some (false, 1) := by kernel_rfl
@[go_sem] theorem it12 : intTy Try.prog 12 = some .u64 := by kernel_rfl
@[go_sem] theorem by12 : byteTy Try.prog 12 = false := by kernel_rfl
@[go_sem] theorem cc12 : Program.concrete Try.prog 12 = true := by kernel_rfl
@[go_sem] theorem st12 : strTy Try.prog 12 = false := by kernel_rfl
@[go_sem] theorem zt12 : ztree Try.prog 12 = some (.lit (.int .u64 0)) := by kernel_rfl
@[go_sem] theorem ty13 : tyInfo Try.prog 13 = some (true, 2) := by kernel_rfl
@[go_sem] theorem by13 : byteTy Try.prog 13 = false := by kernel_rfl
@[go_sem] theorem cc13 : Program.concrete Try.prog 13 = true := by kernel_rfl
@[go_sem] theorem st13 : strTy Try.prog 13 = false := by kernel_rfl
@[go_sem] theorem zt13 : ztree Try.prog 13 = some (.agg [(.lit (.string ByteArray.empty)), (.lit (.int .u64 0))]) := by kernel_rfl
@[go_sem] theorem sp13 : splaces Try.prog 13 = some [(0, 1), (1, 1)] := by kernel_rfl
@[go_sem] theorem fo13_0 : fieldOff Try.prog 13 0 = some 0 := by kernel_rfl
@[go_sem] theorem fo13_1 : fieldOff Try.prog 13 1 = some 1 := by kernel_rfl
@[go_sem] theorem ty20 : tyInfo Try.prog 20 = some (false, 1) := by kernel_rfl
@[go_sem] theorem by20 : byteTy Try.prog 20 = false := by kernel_rfl
@[go_sem] theorem st20 : strTy Try.prog 20 = false := by kernel_rfl
@[go_sem] theorem zt20 : ztree Try.prog 20 = some (.lit .nilIface) := by kernel_rfl
@[go_sem] theorem ty21 : tyInfo Try.prog 21 = some (false, 1) := by kernel_rfl
@[go_sem] theorem it21 : intTy Try.prog 21 = some .i32 := by kernel_rfl
@[go_sem] theorem by21 : byteTy Try.prog 21 = false := by kernel_rfl
@[go_sem] theorem cc21 : Program.concrete Try.prog 21 = true := by kernel_rfl
@[go_sem] theorem st21 : strTy Try.prog 21 = false := by kernel_rfl
@[go_sem] theorem zt21 : ztree Try.prog 21 = some (.lit (.int .i32 0)) := by kernel_rfl
@[go_sem] theorem ty22 : tyInfo Try.prog 22 = some (true, 2) := by kernel_rfl
@[go_sem] theorem by22 : byteTy Try.prog 22 = false := by kernel_rfl
@[go_sem] theorem cc22 : Program.concrete Try.prog 22 = true := by kernel_rfl
@[go_sem] theorem st22 : strTy Try.prog 22 = false := by kernel_rfl
@[go_sem] theorem zt22 : ztree Try.prog 22 = some (.agg [(.lit (.string ByteArray.empty)), (.lit (.int .i64 0))]) := by kernel_rfl
@[go_sem] theorem sp22 : splaces Try.prog 22 = some [(0, 1), (1, 1)] := by kernel_rfl
@[go_sem] theorem fo22_0 : fieldOff Try.prog 22 0 = some 0 := by kernel_rfl
@[go_sem] theorem fo22_1 : fieldOff Try.prog 22 1 = some 1 := by kernel_rfl
@[go_sem] theorem ty23 : tyInfo Try.prog 23 = some (true, 2) := by kernel_rfl
@[go_sem] theorem by23 : byteTy Try.prog 23 = false := by kernel_rfl
@[go_sem] theorem cc23 : Program.concrete Try.prog 23 = true := by kernel_rfl
@[go_sem] theorem eq23 : eqTop Try.prog 23 = some (.agg [.str, .int]) := by kernel_rfl
@[go_sem] theorem st23 : strTy Try.prog 23 = false := by kernel_rfl
@[go_sem] theorem zt23 : ztree Try.prog 23 = some (.agg [(.lit (.string ByteArray.empty)), (.lit (.int .i64 0))]) := by kernel_rfl
@[go_sem] theorem sp23 : splaces Try.prog 23 = some [(0, 1), (1, 1)] := by kernel_rfl
@[go_sem] theorem fo23_0 : fieldOff Try.prog 23 0 = some 0 := by kernel_rfl
@[go_sem] theorem fo23_1 : fieldOff Try.prog 23 1 = some 1 := by kernel_rfl
@[go_sem] theorem ty24 : tyInfo Try.prog 24 = some (false, 1) := by kernel_rfl
@[go_sem] theorem by24 : byteTy Try.prog 24 = false := by kernel_rfl
@[go_sem] theorem cc24 : Program.concrete Try.prog 24 = true := by kernel_rfl
@[go_sem] theorem st24 : strTy Try.prog 24 = false := by kernel_rfl
@[go_sem] theorem sl24 : sliceTy Try.prog 24 = some 3 := by kernel_rfl
@[go_sem] theorem si24 : sliceInfo Try.prog 24 = some (3, 1, 8, (.lit (.int .i64 0))) := by kernel_rfl
@[go_sem] theorem nk24 : nilKind Try.prog 24 = 1 := by kernel_rfl
@[go_sem] theorem zt24 : ztree Try.prog 24 = some .nils := by kernel_rfl
@[go_sem] theorem ty25 : tyInfo Try.prog 25 = some (false, 1) := by kernel_rfl
@[go_sem] theorem by25 : byteTy Try.prog 25 = false := by kernel_rfl
@[go_sem] theorem cc25 : Program.concrete Try.prog 25 = true := by kernel_rfl
@[go_sem] theorem st25 : strTy Try.prog 25 = false := by kernel_rfl
@[go_sem] theorem nk25 : nilKind Try.prog 25 = 2 := by kernel_rfl
@[go_sem] theorem zt25 : ztree Try.prog 25 = some (.lit (.pointer none)) := by kernel_rfl
@[go_sem] theorem ty26 : tyInfo Try.prog 26 = some (false, 1) := by kernel_rfl
@[go_sem] theorem by26 : byteTy Try.prog 26 = false := by kernel_rfl
@[go_sem] theorem cc26 : Program.concrete Try.prog 26 = true := by kernel_rfl
@[go_sem] theorem st26 : strTy Try.prog 26 = false := by kernel_rfl
@[go_sem] theorem nk26 : nilKind Try.prog 26 = 3 := by kernel_rfl
@[go_sem] theorem zt26 : ztree Try.prog 26 = some (.lit .nilFunc) := by kernel_rfl
@[go_sem] theorem ty27 : tyInfo Try.prog 27 = some (true, 32) := by kernel_rfl
@[go_sem] theorem by27 : byteTy Try.prog 27 = false := by kernel_rfl
@[go_sem] theorem cc27 : Program.concrete Try.prog 27 = true := by kernel_rfl
@[go_sem] theorem st27 : strTy Try.prog 27 = false := by kernel_rfl
@[go_sem] theorem ar27 : arrInfo Try.prog 27 = some (32, 5, 1) := by kernel_rfl
@[go_sem] theorem sp27 : splaces Try.prog 27 = none := by kernel_rfl
@[go_sem] theorem zt27 : ztree Try.prog 27 = some (.agg ((List.replicate 32 (0 : UInt8)).map byteAV)) := by kernel_rfl
@[go_sem] theorem ty28 : tyInfo Try.prog 28 = some (true, 32) := by kernel_rfl
@[go_sem] theorem by28 : byteTy Try.prog 28 = false := by kernel_rfl
@[go_sem] theorem cc28 : Program.concrete Try.prog 28 = true := by kernel_rfl
@[go_sem] theorem eq28 : eqTop Try.prog 28 = some (.bytes 32) := by kernel_rfl
@[go_sem] theorem st28 : strTy Try.prog 28 = false := by kernel_rfl
@[go_sem] theorem ar28 : arrInfo Try.prog 28 = some (32, 5, 1) := by kernel_rfl
@[go_sem] theorem sp28 : splaces Try.prog 28 = none := by kernel_rfl
@[go_sem] theorem zt28 : ztree Try.prog 28 = some (.agg ((List.replicate 32 (0 : UInt8)).map byteAV)) := by kernel_rfl
@[go_sem] theorem ty29 : tyInfo Try.prog 29 = some (false, 1) := by kernel_rfl
@[go_sem] theorem by29 : byteTy Try.prog 29 = false := by kernel_rfl
@[go_sem] theorem cc29 : Program.concrete Try.prog 29 = true := by kernel_rfl
@[go_sem] theorem st29 : strTy Try.prog 29 = false := by kernel_rfl
@[go_sem] theorem sl29 : sliceTy Try.prog 29 = some 23 := by kernel_rfl
@[go_sem] theorem si29 : sliceInfo Try.prog 29 = some (23, 2, 24, (.agg [(.lit (.string ByteArray.empty)), (.lit (.int .i64 0))])) := by kernel_rfl
@[go_sem] theorem nk29 : nilKind Try.prog 29 = 1 := by kernel_rfl
@[go_sem] theorem zt29 : ztree Try.prog 29 = some .nils := by kernel_rfl
@[go_sem] theorem ty30 : tyInfo Try.prog 30 = some (true, 34) := by kernel_rfl
@[go_sem] theorem by30 : byteTy Try.prog 30 = false := by kernel_rfl
@[go_sem] theorem cc30 : Program.concrete Try.prog 30 = true := by kernel_rfl
@[go_sem] theorem st30 : strTy Try.prog 30 = false := by kernel_rfl
@[go_sem] theorem zt30 : ztree Try.prog 30 = some (.agg [(.lit (.int .i64 0)), (.agg ((List.replicate 32 (0 : UInt8)).map byteAV)), .nils]) := by kernel_rfl
@[go_sem] theorem sp30 : splaces Try.prog 30 = some [(0, 1), (1, 32), (33, 1)] := by kernel_rfl
@[go_sem] theorem fo30_0 : fieldOff Try.prog 30 0 = some 0 := by kernel_rfl
@[go_sem] theorem fo30_1 : fieldOff Try.prog 30 1 = some 1 := by kernel_rfl
@[go_sem] theorem fo30_2 : fieldOff Try.prog 30 2 = some 33 := by kernel_rfl
@[go_sem] theorem ty31 : tyInfo Try.prog 31 = some (true, 34) := by kernel_rfl
@[go_sem] theorem by31 : byteTy Try.prog 31 = false := by kernel_rfl
@[go_sem] theorem cc31 : Program.concrete Try.prog 31 = true := by kernel_rfl
@[go_sem] theorem st31 : strTy Try.prog 31 = false := by kernel_rfl
@[go_sem] theorem zt31 : ztree Try.prog 31 = some (.agg [(.lit (.int .i64 0)), (.agg ((List.replicate 32 (0 : UInt8)).map byteAV)), .nils]) := by kernel_rfl
@[go_sem] theorem sp31 : splaces Try.prog 31 = some [(0, 1), (1, 32), (33, 1)] := by kernel_rfl
@[go_sem] theorem fo31_0 : fieldOff Try.prog 31 0 = some 0 := by kernel_rfl
@[go_sem] theorem fo31_1 : fieldOff Try.prog 31 1 = some 1 := by kernel_rfl
@[go_sem] theorem fo31_2 : fieldOff Try.prog 31 2 = some 33 := by kernel_rfl
@[go_sem] theorem ty32 : tyInfo Try.prog 32 = some (false, 1) := by kernel_rfl
@[go_sem] theorem by32 : byteTy Try.prog 32 = false := by kernel_rfl
@[go_sem] theorem cc32 : Program.concrete Try.prog 32 = true := by kernel_rfl
@[go_sem] theorem st32 : strTy Try.prog 32 = false := by kernel_rfl
@[go_sem] theorem nk32 : nilKind Try.prog 32 = 3 := by kernel_rfl
@[go_sem] theorem zt32 : ztree Try.prog 32 = some (.lit .nilFunc) := by kernel_rfl
@[go_sem] theorem ty33 : tyInfo Try.prog 33 = some (false, 1) := by kernel_rfl
@[go_sem] theorem by33 : byteTy Try.prog 33 = false := by kernel_rfl
@[go_sem] theorem cc33 : Program.concrete Try.prog 33 = true := by kernel_rfl
@[go_sem] theorem st33 : strTy Try.prog 33 = false := by kernel_rfl
@[go_sem] theorem nk33 : nilKind Try.prog 33 = 3 := by kernel_rfl
@[go_sem] theorem zt33 : ztree Try.prog 33 = some (.lit .nilFunc) := by kernel_rfl
@[go_sem] theorem ty34 : tyInfo Try.prog 34 = some (false, 1) := by kernel_rfl
@[go_sem] theorem by34 : byteTy Try.prog 34 = false := by kernel_rfl
@[go_sem] theorem cc34 : Program.concrete Try.prog 34 = true := by kernel_rfl
@[go_sem] theorem st34 : strTy Try.prog 34 = false := by kernel_rfl
@[go_sem] theorem nk34 : nilKind Try.prog 34 = 3 := by kernel_rfl
@[go_sem] theorem zt34 : ztree Try.prog 34 = some (.lit .nilFunc) := by kernel_rfl
@[go_sem] theorem ty35 : tyInfo Try.prog 35 = some (false, 1) := by kernel_rfl
@[go_sem] theorem by35 : byteTy Try.prog 35 = false := by kernel_rfl
@[go_sem] theorem cc35 : Program.concrete Try.prog 35 = true := by kernel_rfl
@[go_sem] theorem st35 : strTy Try.prog 35 = false := by kernel_rfl
@[go_sem] theorem nk35 : nilKind Try.prog 35 = 3 := by kernel_rfl
@[go_sem] theorem zt35 : ztree Try.prog 35 = some (.lit .nilFunc) := by kernel_rfl
@[go_sem] theorem ty36 : tyInfo Try.prog 36 = some (false, 1) := by kernel_rfl
@[go_sem] theorem by36 : byteTy Try.prog 36 = false := by kernel_rfl
@[go_sem] theorem cc36 : Program.concrete Try.prog 36 = true := by kernel_rfl
@[go_sem] theorem st36 : strTy Try.prog 36 = false := by kernel_rfl
@[go_sem] theorem nk36 : nilKind Try.prog 36 = 3 := by kernel_rfl
@[go_sem] theorem zt36 : ztree Try.prog 36 = some (.lit .nilFunc) := by kernel_rfl
@[go_sem] theorem ty38 : tyInfo Try.prog 38 = some (false, 1) := by kernel_rfl
@[go_sem] theorem by38 : byteTy Try.prog 38 = false := by kernel_rfl
@[go_sem] theorem cc38 : Program.concrete Try.prog 38 = true := by kernel_rfl
@[go_sem] theorem st38 : strTy Try.prog 38 = false := by kernel_rfl
@[go_sem] theorem nk38 : nilKind Try.prog 38 = 3 := by kernel_rfl
@[go_sem] theorem zt38 : ztree Try.prog 38 = some (.lit .nilFunc) := by kernel_rfl
@[go_sem] theorem ty39 : tyInfo Try.prog 39 = some (false, 1) := by kernel_rfl
@[go_sem] theorem by39 : byteTy Try.prog 39 = false := by kernel_rfl
@[go_sem] theorem cc39 : Program.concrete Try.prog 39 = true := by kernel_rfl
@[go_sem] theorem st39 : strTy Try.prog 39 = false := by kernel_rfl
@[go_sem] theorem nk39 : nilKind Try.prog 39 = 3 := by kernel_rfl
@[go_sem] theorem zt39 : ztree Try.prog 39 = some (.lit .nilFunc) := by kernel_rfl
@[go_sem] theorem ty40 : tyInfo Try.prog 40 = some (false, 1) := by kernel_rfl
@[go_sem] theorem by40 : byteTy Try.prog 40 = false := by kernel_rfl
@[go_sem] theorem cc40 : Program.concrete Try.prog 40 = true := by kernel_rfl
@[go_sem] theorem st40 : strTy Try.prog 40 = false := by kernel_rfl
@[go_sem] theorem nk40 : nilKind Try.prog 40 = 3 := by kernel_rfl
@[go_sem] theorem zt40 : ztree Try.prog 40 = some (.lit .nilFunc) := by kernel_rfl
@[go_sem] theorem ty41 : tyInfo Try.prog 41 = some (false, 1) := by kernel_rfl
@[go_sem] theorem by41 : byteTy Try.prog 41 = false := by kernel_rfl
@[go_sem] theorem cc41 : Program.concrete Try.prog 41 = true := by kernel_rfl
@[go_sem] theorem st41 : strTy Try.prog 41 = false := by kernel_rfl
@[go_sem] theorem nk41 : nilKind Try.prog 41 = 3 := by kernel_rfl
@[go_sem] theorem zt41 : ztree Try.prog 41 = some (.lit .nilFunc) := by kernel_rfl
@[go_sem] theorem ty42 : tyInfo Try.prog 42 = some (false, 1) := by kernel_rfl
@[go_sem] theorem by42 : byteTy Try.prog 42 = false := by kernel_rfl
@[go_sem] theorem cc42 : Program.concrete Try.prog 42 = true := by kernel_rfl
@[go_sem] theorem st42 : strTy Try.prog 42 = false := by kernel_rfl
@[go_sem] theorem sl42 : sliceTy Try.prog 42 = some 28 := by kernel_rfl
@[go_sem] theorem si42 : sliceInfo Try.prog 42 = some (28, 32, 32, (.agg ((List.replicate 32 (0 : UInt8)).map byteAV))) := by kernel_rfl
@[go_sem] theorem nk42 : nilKind Try.prog 42 = 1 := by kernel_rfl
@[go_sem] theorem zt42 : ztree Try.prog 42 = some .nils := by kernel_rfl
@[go_sem] theorem ty43 : tyInfo Try.prog 43 = some (false, 1) := by kernel_rfl
@[go_sem] theorem by43 : byteTy Try.prog 43 = false := by kernel_rfl
@[go_sem] theorem cc43 : Program.concrete Try.prog 43 = true := by kernel_rfl
@[go_sem] theorem st43 : strTy Try.prog 43 = false := by kernel_rfl
@[go_sem] theorem nk43 : nilKind Try.prog 43 = 3 := by kernel_rfl
@[go_sem] theorem zt43 : ztree Try.prog 43 = some (.lit .nilFunc) := by kernel_rfl
@[go_sem] theorem ty44 : tyInfo Try.prog 44 = some (false, 1) := by kernel_rfl
@[go_sem] theorem by44 : byteTy Try.prog 44 = false := by kernel_rfl
@[go_sem] theorem cc44 : Program.concrete Try.prog 44 = true := by kernel_rfl
@[go_sem] theorem st44 : strTy Try.prog 44 = false := by kernel_rfl
@[go_sem] theorem sl44 : sliceTy Try.prog 44 = some 42 := by kernel_rfl
@[go_sem] theorem si44 : sliceInfo Try.prog 44 = some (42, 1, 24, .nils) := by kernel_rfl
@[go_sem] theorem nk44 : nilKind Try.prog 44 = 1 := by kernel_rfl
@[go_sem] theorem zt44 : ztree Try.prog 44 = some .nils := by kernel_rfl
@[go_sem] theorem ty45 : tyInfo Try.prog 45 = some (false, 1) := by kernel_rfl
@[go_sem] theorem it45 : intTy Try.prog 45 = some .i64 := by kernel_rfl
@[go_sem] theorem by45 : byteTy Try.prog 45 = false := by kernel_rfl
@[go_sem] theorem cc45 : Program.concrete Try.prog 45 = true := by kernel_rfl
@[go_sem] theorem st45 : strTy Try.prog 45 = false := by kernel_rfl
@[go_sem] theorem zt45 : ztree Try.prog 45 = some (.lit (.int .i64 0)) := by kernel_rfl
@[go_sem] theorem ty47 : tyInfo Try.prog 47 = some (false, 1) := by kernel_rfl
@[go_sem] theorem by47 : byteTy Try.prog 47 = false := by kernel_rfl
@[go_sem] theorem cc47 : Program.concrete Try.prog 47 = true := by kernel_rfl
@[go_sem] theorem st47 : strTy Try.prog 47 = false := by kernel_rfl
@[go_sem] theorem nk47 : nilKind Try.prog 47 = 3 := by kernel_rfl
@[go_sem] theorem zt47 : ztree Try.prog 47 = some (.lit .nilFunc) := by kernel_rfl
@[go_sem] theorem ty48 : tyInfo Try.prog 48 = some (false, 1) := by kernel_rfl
@[go_sem] theorem by48 : byteTy Try.prog 48 = false := by kernel_rfl
@[go_sem] theorem cc48 : Program.concrete Try.prog 48 = true := by kernel_rfl
@[go_sem] theorem st48 : strTy Try.prog 48 = false := by kernel_rfl
@[go_sem] theorem nk48 : nilKind Try.prog 48 = 3 := by kernel_rfl
@[go_sem] theorem zt48 : ztree Try.prog 48 = some (.lit .nilFunc) := by kernel_rfl
@[go_sem] theorem ty49 : tyInfo Try.prog 49 = some (false, 1) := by kernel_rfl
@[go_sem] theorem by49 : byteTy Try.prog 49 = false := by kernel_rfl
@[go_sem] theorem cc49 : Program.concrete Try.prog 49 = true := by kernel_rfl
@[go_sem] theorem st49 : strTy Try.prog 49 = false := by kernel_rfl
@[go_sem] theorem nk49 : nilKind Try.prog 49 = 3 := by kernel_rfl
@[go_sem] theorem zt49 : ztree Try.prog 49 = some (.lit .nilFunc) := by kernel_rfl
@[go_sem] theorem ty51 : tyInfo Try.prog 51 = some (false, 1) := by kernel_rfl
@[go_sem] theorem by51 : byteTy Try.prog 51 = false := by kernel_rfl
@[go_sem] theorem cc51 : Program.concrete Try.prog 51 = true := by kernel_rfl
@[go_sem] theorem st51 : strTy Try.prog 51 = false := by kernel_rfl
@[go_sem] theorem nk51 : nilKind Try.prog 51 = 3 := by kernel_rfl
@[go_sem] theorem zt51 : ztree Try.prog 51 = some (.lit .nilFunc) := by kernel_rfl
@[go_sem] theorem ty52 : tyInfo Try.prog 52 = some (false, 1) := by kernel_rfl
@[go_sem] theorem by52 : byteTy Try.prog 52 = false := by kernel_rfl
@[go_sem] theorem cc52 : Program.concrete Try.prog 52 = true := by kernel_rfl
@[go_sem] theorem st52 : strTy Try.prog 52 = false := by kernel_rfl
@[go_sem] theorem nk52 : nilKind Try.prog 52 = 3 := by kernel_rfl
@[go_sem] theorem zt52 : ztree Try.prog 52 = some (.lit .nilFunc) := by kernel_rfl
@[go_sem] theorem ty53 : tyInfo Try.prog 53 = some (false, 1) := by kernel_rfl
@[go_sem] theorem by53 : byteTy Try.prog 53 = false := by kernel_rfl
@[go_sem] theorem cc53 : Program.concrete Try.prog 53 = true := by kernel_rfl
@[go_sem] theorem st53 : strTy Try.prog 53 = false := by kernel_rfl
@[go_sem] theorem nk53 : nilKind Try.prog 53 = 3 := by kernel_rfl
@[go_sem] theorem zt53 : ztree Try.prog 53 = some (.lit .nilFunc) := by kernel_rfl
@[go_sem] theorem ty54 : tyInfo Try.prog 54 = some (false, 1) := by kernel_rfl
@[go_sem] theorem by54 : byteTy Try.prog 54 = false := by kernel_rfl
@[go_sem] theorem cc54 : Program.concrete Try.prog 54 = true := by kernel_rfl
@[go_sem] theorem st54 : strTy Try.prog 54 = false := by kernel_rfl
@[go_sem] theorem nk54 : nilKind Try.prog 54 = 3 := by kernel_rfl
@[go_sem] theorem zt54 : ztree Try.prog 54 = some (.lit .nilFunc) := by kernel_rfl
@[go_sem] theorem ty55 : tyInfo Try.prog 55 = some (false, 1) := by kernel_rfl
@[go_sem] theorem by55 : byteTy Try.prog 55 = false := by kernel_rfl
@[go_sem] theorem cc55 : Program.concrete Try.prog 55 = true := by kernel_rfl
@[go_sem] theorem st55 : strTy Try.prog 55 = false := by kernel_rfl
@[go_sem] theorem sl55 : sliceTy Try.prog 55 = some 5 := by kernel_rfl
@[go_sem] theorem si55 : sliceInfo Try.prog 55 = some (5, 1, 1, (.lit (.int .u8 0))) := by kernel_rfl
@[go_sem] theorem nk55 : nilKind Try.prog 55 = 1 := by kernel_rfl
@[go_sem] theorem zt55 : ztree Try.prog 55 = some .nils := by kernel_rfl
@[go_sem] theorem ty56 : tyInfo Try.prog 56 = some (true, 2) := by kernel_rfl
@[go_sem] theorem by56 : byteTy Try.prog 56 = false := by kernel_rfl
@[go_sem] theorem cc56 : Program.concrete Try.prog 56 = true := by kernel_rfl
@[go_sem] theorem st56 : strTy Try.prog 56 = false := by kernel_rfl
@[go_sem] theorem ar56 : arrInfo Try.prog 56 = some (2, 55, 1) := by kernel_rfl
@[go_sem] theorem sp56 : splaces Try.prog 56 = none := by kernel_rfl
@[go_sem] theorem zt56 : ztree Try.prog 56 = some (.agg (List.replicate 2 .nils)) := by kernel_rfl
@[go_sem] theorem ty57 : tyInfo Try.prog 57 = some (true, 8) := by kernel_rfl
@[go_sem] theorem by57 : byteTy Try.prog 57 = false := by kernel_rfl
@[go_sem] theorem cc57 : Program.concrete Try.prog 57 = true := by kernel_rfl
@[go_sem] theorem st57 : strTy Try.prog 57 = false := by kernel_rfl
@[go_sem] theorem zt57 : ztree Try.prog 57 = some (.agg [(.agg (List.replicate 2 .nils)), (.lit (.int .i64 0)), (.lit (.int .i64 0)), (.lit (.int .i64 0)), (.lit (.int .i64 0)), (.lit (.int .i64 0)), (.lit (.bool false))]) := by kernel_rfl
@[go_sem] theorem sp57 : splaces Try.prog 57 = some [(0, 2), (2, 1), (3, 1), (4, 1), (5, 1), (6, 1), (7, 1)] := by kernel_rfl
@[go_sem] theorem fo57_0 : fieldOff Try.prog 57 0 = some 0 := by kernel_rfl
@[go_sem] theorem fo57_1 : fieldOff Try.prog 57 1 = some 2 := by kernel_rfl
@[go_sem] theorem fo57_2 : fieldOff Try.prog 57 2 = some 3 := by kernel_rfl
@[go_sem] theorem fo57_3 : fieldOff Try.prog 57 3 = some 4 := by kernel_rfl
@[go_sem] theorem fo57_4 : fieldOff Try.prog 57 4 = some 5 := by kernel_rfl
@[go_sem] theorem fo57_5 : fieldOff Try.prog 57 5 = some 6 := by kernel_rfl
@[go_sem] theorem fo57_6 : fieldOff Try.prog 57 6 = some 7 := by kernel_rfl
@[go_sem] theorem ty58 : tyInfo Try.prog 58 = some (true, 8) := by kernel_rfl
@[go_sem] theorem by58 : byteTy Try.prog 58 = false := by kernel_rfl
@[go_sem] theorem cc58 : Program.concrete Try.prog 58 = true := by kernel_rfl
@[go_sem] theorem st58 : strTy Try.prog 58 = false := by kernel_rfl
@[go_sem] theorem zt58 : ztree Try.prog 58 = some (.agg [(.agg (List.replicate 2 .nils)), (.lit (.int .i64 0)), (.lit (.int .i64 0)), (.lit (.int .i64 0)), (.lit (.int .i64 0)), (.lit (.int .i64 0)), (.lit (.bool false))]) := by kernel_rfl
@[go_sem] theorem sp58 : splaces Try.prog 58 = some [(0, 2), (2, 1), (3, 1), (4, 1), (5, 1), (6, 1), (7, 1)] := by kernel_rfl
@[go_sem] theorem fo58_0 : fieldOff Try.prog 58 0 = some 0 := by kernel_rfl
@[go_sem] theorem fo58_1 : fieldOff Try.prog 58 1 = some 2 := by kernel_rfl
@[go_sem] theorem fo58_2 : fieldOff Try.prog 58 2 = some 3 := by kernel_rfl
@[go_sem] theorem fo58_3 : fieldOff Try.prog 58 3 = some 4 := by kernel_rfl
@[go_sem] theorem fo58_4 : fieldOff Try.prog 58 4 = some 5 := by kernel_rfl
@[go_sem] theorem fo58_5 : fieldOff Try.prog 58 5 = some 6 := by kernel_rfl
@[go_sem] theorem fo58_6 : fieldOff Try.prog 58 6 = some 7 := by kernel_rfl
@[go_sem] theorem ty60 : tyInfo Try.prog 60 = some (false, 1) := by kernel_rfl
@[go_sem] theorem by60 : byteTy Try.prog 60 = false := by kernel_rfl
@[go_sem] theorem cc60 : Program.concrete Try.prog 60 = true := by kernel_rfl
@[go_sem] theorem st60 : strTy Try.prog 60 = false := by kernel_rfl
@[go_sem] theorem nk60 : nilKind Try.prog 60 = 3 := by kernel_rfl
@[go_sem] theorem zt60 : ztree Try.prog 60 = some (.lit .nilFunc) := by kernel_rfl
@[go_sem] theorem ty61 : tyInfo Try.prog 61 = some (false, 1) := by kernel_rfl
@[go_sem] theorem by61 : byteTy Try.prog 61 = false := by kernel_rfl
@[go_sem] theorem cc61 : Program.concrete Try.prog 61 = true := by kernel_rfl
@[go_sem] theorem st61 : strTy Try.prog 61 = false := by kernel_rfl
@[go_sem] theorem nk61 : nilKind Try.prog 61 = 3 := by kernel_rfl
@[go_sem] theorem zt61 : ztree Try.prog 61 = some (.lit .nilFunc) := by kernel_rfl
@[go_sem] theorem ty62 : tyInfo Try.prog 62 = some (false, 1) := by kernel_rfl
@[go_sem] theorem by62 : byteTy Try.prog 62 = false := by kernel_rfl
@[go_sem] theorem cc62 : Program.concrete Try.prog 62 = true := by kernel_rfl
@[go_sem] theorem st62 : strTy Try.prog 62 = false := by kernel_rfl
@[go_sem] theorem nk62 : nilKind Try.prog 62 = 3 := by kernel_rfl
@[go_sem] theorem zt62 : ztree Try.prog 62 = some (.lit .nilFunc) := by kernel_rfl
@[go_sem] theorem ty63 : tyInfo Try.prog 63 = some (false, 1) := by kernel_rfl
@[go_sem] theorem by63 : byteTy Try.prog 63 = false := by kernel_rfl
@[go_sem] theorem cc63 : Program.concrete Try.prog 63 = true := by kernel_rfl
@[go_sem] theorem st63 : strTy Try.prog 63 = false := by kernel_rfl
@[go_sem] theorem nk63 : nilKind Try.prog 63 = 3 := by kernel_rfl
@[go_sem] theorem zt63 : ztree Try.prog 63 = some (.lit .nilFunc) := by kernel_rfl
@[go_sem] theorem ty64 : tyInfo Try.prog 64 = some (false, 1) := by kernel_rfl
@[go_sem] theorem by64 : byteTy Try.prog 64 = false := by kernel_rfl
@[go_sem] theorem cc64 : Program.concrete Try.prog 64 = true := by kernel_rfl
@[go_sem] theorem st64 : strTy Try.prog 64 = false := by kernel_rfl
@[go_sem] theorem sl64 : sliceTy Try.prog 64 = some 58 := by kernel_rfl
@[go_sem] theorem si64 : sliceInfo Try.prog 64 = some (58, 8, 96, (.agg [(.agg (List.replicate 2 .nils)), (.lit (.int .i64 0)), (.lit (.int .i64 0)), (.lit (.int .i64 0)), (.lit (.int .i64 0)), (.lit (.int .i64 0)), (.lit (.bool false))])) := by kernel_rfl
@[go_sem] theorem nk64 : nilKind Try.prog 64 = 1 := by kernel_rfl
@[go_sem] theorem zt64 : ztree Try.prog 64 = some .nils := by kernel_rfl
@[go_sem] theorem ty65 : tyInfo Try.prog 65 = some (false, 1) := by kernel_rfl
@[go_sem] theorem by65 : byteTy Try.prog 65 = false := by kernel_rfl
@[go_sem] theorem cc65 : Program.concrete Try.prog 65 = true := by kernel_rfl
@[go_sem] theorem st65 : strTy Try.prog 65 = false := by kernel_rfl
@[go_sem] theorem nk65 : nilKind Try.prog 65 = 3 := by kernel_rfl
@[go_sem] theorem zt65 : ztree Try.prog 65 = some (.lit .nilFunc) := by kernel_rfl
@[go_sem] theorem ty66 : tyInfo Try.prog 66 = some (false, 1) := by kernel_rfl
@[go_sem] theorem by66 : byteTy Try.prog 66 = false := by kernel_rfl
@[go_sem] theorem cc66 : Program.concrete Try.prog 66 = true := by kernel_rfl
@[go_sem] theorem st66 : strTy Try.prog 66 = false := by kernel_rfl
@[go_sem] theorem sl66 : sliceTy Try.prog 66 = some 55 := by kernel_rfl
@[go_sem] theorem si66 : sliceInfo Try.prog 66 = some (55, 1, 24, .nils) := by kernel_rfl
@[go_sem] theorem nk66 : nilKind Try.prog 66 = 1 := by kernel_rfl
@[go_sem] theorem zt66 : ztree Try.prog 66 = some .nils := by kernel_rfl
@[go_sem] theorem ty68 : tyInfo Try.prog 68 = some (false, 1) := by kernel_rfl
@[go_sem] theorem by68 : byteTy Try.prog 68 = false := by kernel_rfl
@[go_sem] theorem cc68 : Program.concrete Try.prog 68 = true := by kernel_rfl
@[go_sem] theorem st68 : strTy Try.prog 68 = false := by kernel_rfl
@[go_sem] theorem nk68 : nilKind Try.prog 68 = 3 := by kernel_rfl
@[go_sem] theorem zt68 : ztree Try.prog 68 = some (.lit .nilFunc) := by kernel_rfl
@[go_sem] theorem ty69 : tyInfo Try.prog 69 = some (false, 1) := by kernel_rfl
@[go_sem] theorem by69 : byteTy Try.prog 69 = false := by kernel_rfl
@[go_sem] theorem cc69 : Program.concrete Try.prog 69 = true := by kernel_rfl
@[go_sem] theorem st69 : strTy Try.prog 69 = false := by kernel_rfl
@[go_sem] theorem nk69 : nilKind Try.prog 69 = 3 := by kernel_rfl
@[go_sem] theorem zt69 : ztree Try.prog 69 = some (.lit .nilFunc) := by kernel_rfl
@[go_sem] theorem ty70 : tyInfo Try.prog 70 = some (false, 1) := by kernel_rfl
@[go_sem] theorem by70 : byteTy Try.prog 70 = false := by kernel_rfl
@[go_sem] theorem cc70 : Program.concrete Try.prog 70 = true := by kernel_rfl
@[go_sem] theorem st70 : strTy Try.prog 70 = false := by kernel_rfl
@[go_sem] theorem nk70 : nilKind Try.prog 70 = 3 := by kernel_rfl
@[go_sem] theorem zt70 : ztree Try.prog 70 = some (.lit .nilFunc) := by kernel_rfl
@[go_sem] theorem ty71 : tyInfo Try.prog 71 = some (false, 1) := by kernel_rfl
@[go_sem] theorem by71 : byteTy Try.prog 71 = false := by kernel_rfl
@[go_sem] theorem cc71 : Program.concrete Try.prog 71 = true := by kernel_rfl
@[go_sem] theorem st71 : strTy Try.prog 71 = false := by kernel_rfl
@[go_sem] theorem nk71 : nilKind Try.prog 71 = 3 := by kernel_rfl
@[go_sem] theorem zt71 : ztree Try.prog 71 = some (.lit .nilFunc) := by kernel_rfl
@[go_sem] theorem ty72 : tyInfo Try.prog 72 = some (false, 1) := by kernel_rfl
@[go_sem] theorem by72 : byteTy Try.prog 72 = false := by kernel_rfl
@[go_sem] theorem cc72 : Program.concrete Try.prog 72 = true := by kernel_rfl
@[go_sem] theorem st72 : strTy Try.prog 72 = false := by kernel_rfl
@[go_sem] theorem nk72 : nilKind Try.prog 72 = 3 := by kernel_rfl
@[go_sem] theorem zt72 : ztree Try.prog 72 = some (.lit .nilFunc) := by kernel_rfl
@[go_sem] theorem ty73 : tyInfo Try.prog 73 = some (false, 1) := by kernel_rfl
@[go_sem] theorem by73 : byteTy Try.prog 73 = false := by kernel_rfl
@[go_sem] theorem cc73 : Program.concrete Try.prog 73 = true := by kernel_rfl
@[go_sem] theorem st73 : strTy Try.prog 73 = false := by kernel_rfl
@[go_sem] theorem nk73 : nilKind Try.prog 73 = 3 := by kernel_rfl
@[go_sem] theorem zt73 : ztree Try.prog 73 = some (.lit .nilFunc) := by kernel_rfl
@[go_sem] theorem ty74 : tyInfo Try.prog 74 = some (false, 1) := by kernel_rfl
@[go_sem] theorem by74 : byteTy Try.prog 74 = false := by kernel_rfl
@[go_sem] theorem cc74 : Program.concrete Try.prog 74 = true := by kernel_rfl
@[go_sem] theorem st74 : strTy Try.prog 74 = false := by kernel_rfl
@[go_sem] theorem nk74 : nilKind Try.prog 74 = 3 := by kernel_rfl
@[go_sem] theorem zt74 : ztree Try.prog 74 = some (.lit .nilFunc) := by kernel_rfl
@[go_sem] theorem ty75 : tyInfo Try.prog 75 = some (false, 1) := by kernel_rfl
@[go_sem] theorem by75 : byteTy Try.prog 75 = false := by kernel_rfl
@[go_sem] theorem cc75 : Program.concrete Try.prog 75 = true := by kernel_rfl
@[go_sem] theorem st75 : strTy Try.prog 75 = false := by kernel_rfl
@[go_sem] theorem nk75 : nilKind Try.prog 75 = 3 := by kernel_rfl
@[go_sem] theorem zt75 : ztree Try.prog 75 = some (.lit .nilFunc) := by kernel_rfl
@[go_sem] theorem ty76 : tyInfo Try.prog 76 = some (false, 1) := by kernel_rfl
@[go_sem] theorem by76 : byteTy Try.prog 76 = false := by kernel_rfl
@[go_sem] theorem cc76 : Program.concrete Try.prog 76 = true := by kernel_rfl
@[go_sem] theorem st76 : strTy Try.prog 76 = false := by kernel_rfl
@[go_sem] theorem nk76 : nilKind Try.prog 76 = 3 := by kernel_rfl
@[go_sem] theorem zt76 : ztree Try.prog 76 = some (.lit .nilFunc) := by kernel_rfl
@[go_sem] theorem ty77 : tyInfo Try.prog 77 = some (false, 1) := by kernel_rfl
@[go_sem] theorem by77 : byteTy Try.prog 77 = false := by kernel_rfl
@[go_sem] theorem cc77 : Program.concrete Try.prog 77 = true := by kernel_rfl
@[go_sem] theorem st77 : strTy Try.prog 77 = false := by kernel_rfl
@[go_sem] theorem nk77 : nilKind Try.prog 77 = 3 := by kernel_rfl
@[go_sem] theorem zt77 : ztree Try.prog 77 = some (.lit .nilFunc) := by kernel_rfl
@[go_sem] theorem ty79 : tyInfo Try.prog 79 = some (false, 1) := by kernel_rfl
@[go_sem] theorem by79 : byteTy Try.prog 79 = false := by kernel_rfl
@[go_sem] theorem cc79 : Program.concrete Try.prog 79 = true := by kernel_rfl
@[go_sem] theorem st79 : strTy Try.prog 79 = false := by kernel_rfl
@[go_sem] theorem nk79 : nilKind Try.prog 79 = 3 := by kernel_rfl
@[go_sem] theorem zt79 : ztree Try.prog 79 = some (.lit .nilFunc) := by kernel_rfl
@[go_sem] theorem ty80 : tyInfo Try.prog 80 = some (false, 1) := by kernel_rfl
@[go_sem] theorem by80 : byteTy Try.prog 80 = false := by kernel_rfl
@[go_sem] theorem cc80 : Program.concrete Try.prog 80 = true := by kernel_rfl
@[go_sem] theorem st80 : strTy Try.prog 80 = false := by kernel_rfl
@[go_sem] theorem nk80 : nilKind Try.prog 80 = 3 := by kernel_rfl
@[go_sem] theorem zt80 : ztree Try.prog 80 = some (.lit .nilFunc) := by kernel_rfl
@[go_sem] theorem ty82 : tyInfo Try.prog 82 = some (false, 1) := by kernel_rfl
@[go_sem] theorem by82 : byteTy Try.prog 82 = false := by kernel_rfl
@[go_sem] theorem cc82 : Program.concrete Try.prog 82 = true := by kernel_rfl
@[go_sem] theorem st82 : strTy Try.prog 82 = false := by kernel_rfl
@[go_sem] theorem nk82 : nilKind Try.prog 82 = 3 := by kernel_rfl
@[go_sem] theorem zt82 : ztree Try.prog 82 = some (.lit .nilFunc) := by kernel_rfl
@[go_sem] theorem ty83 : tyInfo Try.prog 83 = some (false, 1) := by kernel_rfl
@[go_sem] theorem by83 : byteTy Try.prog 83 = false := by kernel_rfl
@[go_sem] theorem cc83 : Program.concrete Try.prog 83 = true := by kernel_rfl
@[go_sem] theorem st83 : strTy Try.prog 83 = false := by kernel_rfl
@[go_sem] theorem nk83 : nilKind Try.prog 83 = 3 := by kernel_rfl
@[go_sem] theorem zt83 : ztree Try.prog 83 = some (.lit .nilFunc) := by kernel_rfl
@[go_sem] theorem ty84 : tyInfo Try.prog 84 = some (false, 1) := by kernel_rfl
@[go_sem] theorem by84 : byteTy Try.prog 84 = false := by kernel_rfl
@[go_sem] theorem cc84 : Program.concrete Try.prog 84 = true := by kernel_rfl
@[go_sem] theorem st84 : strTy Try.prog 84 = false := by kernel_rfl
@[go_sem] theorem nk84 : nilKind Try.prog 84 = 3 := by kernel_rfl
@[go_sem] theorem zt84 : ztree Try.prog 84 = some (.lit .nilFunc) := by kernel_rfl
@[go_sem] theorem ty85 : tyInfo Try.prog 85 = some (false, 1) := by kernel_rfl
@[go_sem] theorem by85 : byteTy Try.prog 85 = false := by kernel_rfl
@[go_sem] theorem cc85 : Program.concrete Try.prog 85 = true := by kernel_rfl
@[go_sem] theorem st85 : strTy Try.prog 85 = false := by kernel_rfl
@[go_sem] theorem nk85 : nilKind Try.prog 85 = 3 := by kernel_rfl
@[go_sem] theorem zt85 : ztree Try.prog 85 = some (.lit .nilFunc) := by kernel_rfl
@[go_sem] theorem ty86 : tyInfo Try.prog 86 = some (true, 2) := by kernel_rfl
@[go_sem] theorem by86 : byteTy Try.prog 86 = false := by kernel_rfl
@[go_sem] theorem cc86 : Program.concrete Try.prog 86 = true := by kernel_rfl
@[go_sem] theorem st86 : strTy Try.prog 86 = false := by kernel_rfl
@[go_sem] theorem zt86 : ztree Try.prog 86 = some (.agg [.nils, (.lit (.int .i64 0))]) := by kernel_rfl
@[go_sem] theorem sp86 : splaces Try.prog 86 = some [(0, 1), (1, 1)] := by kernel_rfl
@[go_sem] theorem fo86_0 : fieldOff Try.prog 86 0 = some 0 := by kernel_rfl
@[go_sem] theorem fo86_1 : fieldOff Try.prog 86 1 = some 1 := by kernel_rfl
@[go_sem] theorem ty87 : tyInfo Try.prog 87 = some (true, 2) := by kernel_rfl
@[go_sem] theorem by87 : byteTy Try.prog 87 = false := by kernel_rfl
@[go_sem] theorem cc87 : Program.concrete Try.prog 87 = true := by kernel_rfl
@[go_sem] theorem st87 : strTy Try.prog 87 = false := by kernel_rfl
@[go_sem] theorem zt87 : ztree Try.prog 87 = some (.agg [.nils, (.lit (.int .i64 0))]) := by kernel_rfl
@[go_sem] theorem sp87 : splaces Try.prog 87 = some [(0, 1), (1, 1)] := by kernel_rfl
@[go_sem] theorem fo87_0 : fieldOff Try.prog 87 0 = some 0 := by kernel_rfl
@[go_sem] theorem fo87_1 : fieldOff Try.prog 87 1 = some 1 := by kernel_rfl
@[go_sem] theorem ty88 : tyInfo Try.prog 88 = some (false, 1) := by kernel_rfl
@[go_sem] theorem by88 : byteTy Try.prog 88 = false := by kernel_rfl
@[go_sem] theorem cc88 : Program.concrete Try.prog 88 = true := by kernel_rfl
@[go_sem] theorem st88 : strTy Try.prog 88 = false := by kernel_rfl
@[go_sem] theorem nk88 : nilKind Try.prog 88 = 3 := by kernel_rfl
@[go_sem] theorem zt88 : ztree Try.prog 88 = some (.lit .nilFunc) := by kernel_rfl
@[go_sem] theorem ty89 : tyInfo Try.prog 89 = some (false, 1) := by kernel_rfl
@[go_sem] theorem by89 : byteTy Try.prog 89 = false := by kernel_rfl
@[go_sem] theorem cc89 : Program.concrete Try.prog 89 = true := by kernel_rfl
@[go_sem] theorem st89 : strTy Try.prog 89 = false := by kernel_rfl
@[go_sem] theorem sl89 : sliceTy Try.prog 89 = some 9 := by kernel_rfl
@[go_sem] theorem si89 : sliceInfo Try.prog 89 = some (9, 1, 16, (.lit (.string ByteArray.empty))) := by kernel_rfl
@[go_sem] theorem nk89 : nilKind Try.prog 89 = 1 := by kernel_rfl
@[go_sem] theorem zt89 : ztree Try.prog 89 = some .nils := by kernel_rfl
@[go_sem] theorem ty90 : tyInfo Try.prog 90 = some (false, 1) := by kernel_rfl
@[go_sem] theorem by90 : byteTy Try.prog 90 = false := by kernel_rfl
@[go_sem] theorem cc90 : Program.concrete Try.prog 90 = true := by kernel_rfl
@[go_sem] theorem st90 : strTy Try.prog 90 = false := by kernel_rfl
@[go_sem] theorem nk90 : nilKind Try.prog 90 = 3 := by kernel_rfl
@[go_sem] theorem zt90 : ztree Try.prog 90 = some (.lit .nilFunc) := by kernel_rfl
@[go_sem] theorem ty91 : tyInfo Try.prog 91 = some (false, 1) := by kernel_rfl
@[go_sem] theorem by91 : byteTy Try.prog 91 = false := by kernel_rfl
@[go_sem] theorem cc91 : Program.concrete Try.prog 91 = true := by kernel_rfl
@[go_sem] theorem st91 : strTy Try.prog 91 = false := by kernel_rfl
@[go_sem] theorem nk91 : nilKind Try.prog 91 = 3 := by kernel_rfl
@[go_sem] theorem zt91 : ztree Try.prog 91 = some (.lit .nilFunc) := by kernel_rfl
@[go_sem] theorem ty92 : tyInfo Try.prog 92 = some (false, 1) := by kernel_rfl
@[go_sem] theorem by92 : byteTy Try.prog 92 = false := by kernel_rfl
@[go_sem] theorem cc92 : Program.concrete Try.prog 92 = true := by kernel_rfl
@[go_sem] theorem st92 : strTy Try.prog 92 = false := by kernel_rfl
@[go_sem] theorem nk92 : nilKind Try.prog 92 = 3 := by kernel_rfl
@[go_sem] theorem zt92 : ztree Try.prog 92 = some (.lit .nilFunc) := by kernel_rfl
@[go_sem] theorem ty93 : tyInfo Try.prog 93 = some (false, 1) := by kernel_rfl
@[go_sem] theorem by93 : byteTy Try.prog 93 = false := by kernel_rfl
@[go_sem] theorem cc93 : Program.concrete Try.prog 93 = true := by kernel_rfl
@[go_sem] theorem st93 : strTy Try.prog 93 = false := by kernel_rfl
@[go_sem] theorem nk93 : nilKind Try.prog 93 = 3 := by kernel_rfl
@[go_sem] theorem zt93 : ztree Try.prog 93 = some (.lit .nilFunc) := by kernel_rfl
@[go_sem] theorem ty94 : tyInfo Try.prog 94 = some (false, 1) := by kernel_rfl
@[go_sem] theorem by94 : byteTy Try.prog 94 = false := by kernel_rfl
@[go_sem] theorem cc94 : Program.concrete Try.prog 94 = true := by kernel_rfl
@[go_sem] theorem st94 : strTy Try.prog 94 = false := by kernel_rfl
@[go_sem] theorem nk94 : nilKind Try.prog 94 = 3 := by kernel_rfl
@[go_sem] theorem zt94 : ztree Try.prog 94 = some (.lit .nilFunc) := by kernel_rfl
@[go_sem] theorem ty95 : tyInfo Try.prog 95 = some (false, 1) := by kernel_rfl
@[go_sem] theorem by95 : byteTy Try.prog 95 = false := by kernel_rfl
@[go_sem] theorem cc95 : Program.concrete Try.prog 95 = true := by kernel_rfl
@[go_sem] theorem st95 : strTy Try.prog 95 = false := by kernel_rfl
@[go_sem] theorem nk95 : nilKind Try.prog 95 = 3 := by kernel_rfl
@[go_sem] theorem zt95 : ztree Try.prog 95 = some (.lit .nilFunc) := by kernel_rfl
@[go_sem] theorem ty96 : tyInfo Try.prog 96 = some (false, 1) := by kernel_rfl
@[go_sem] theorem it96 : intTy Try.prog 96 = some .u64 := by kernel_rfl
@[go_sem] theorem by96 : byteTy Try.prog 96 = false := by kernel_rfl
@[go_sem] theorem cc96 : Program.concrete Try.prog 96 = true := by kernel_rfl
@[go_sem] theorem st96 : strTy Try.prog 96 = false := by kernel_rfl
@[go_sem] theorem zt96 : ztree Try.prog 96 = some (.lit (.int .u64 0)) := by kernel_rfl
@[go_sem] theorem ty97 : tyInfo Try.prog 97 = some (false, 1) := by kernel_rfl
@[go_sem] theorem by97 : byteTy Try.prog 97 = false := by kernel_rfl
@[go_sem] theorem cc97 : Program.concrete Try.prog 97 = true := by kernel_rfl
@[go_sem] theorem st97 : strTy Try.prog 97 = false := by kernel_rfl
@[go_sem] theorem nk97 : nilKind Try.prog 97 = 3 := by kernel_rfl
@[go_sem] theorem zt97 : ztree Try.prog 97 = some (.lit .nilFunc) := by kernel_rfl
@[go_sem] theorem ty103 : tyInfo Try.prog 103 = some (false, 1) := by kernel_rfl
@[go_sem] theorem it103 : intTy Try.prog 103 = some .u32 := by kernel_rfl
@[go_sem] theorem by103 : byteTy Try.prog 103 = false := by kernel_rfl
@[go_sem] theorem cc103 : Program.concrete Try.prog 103 = true := by kernel_rfl
@[go_sem] theorem st103 : strTy Try.prog 103 = false := by kernel_rfl
@[go_sem] theorem zt103 : ztree Try.prog 103 = some (.lit (.int .u32 0)) := by kernel_rfl
@[go_sem] theorem ty107 : tyInfo Try.prog 107 = some (false, 1) := by kernel_rfl
@[go_sem] theorem by107 : byteTy Try.prog 107 = false := by kernel_rfl
@[go_sem] theorem cc107 : Program.concrete Try.prog 107 = true := by kernel_rfl
@[go_sem] theorem st107 : strTy Try.prog 107 = false := by kernel_rfl
@[go_sem] theorem nk107 : nilKind Try.prog 107 = 2 := by kernel_rfl
@[go_sem] theorem zt107 : ztree Try.prog 107 = some (.lit (.pointer none)) := by kernel_rfl
end Go.Proofs.Ythklokpgjfopnaa
