/- Closed facts on the types of this seat's program, each by the kernel (written by facts.py off the given translation). -/
import Derived.Test.YtaelnglalpiemaaRows
import Derived.Test.YtaelnglalpiemaaC1
import Derived.KernelRfl
namespace Go.Proofs.Ytaelnglalpiemaa
open Go.Ab

theorem mixed : Try.prog.follows .mixedOrders = true := by kernel_rfl
@[go_sem] theorem ty1 : tyInfo Try.prog 1 = some (false, 1) := by kernel_rfl
@[go_sem] theorem by1 : byteTy Try.prog 1 = false := by kernel_rfl
@[go_sem] theorem cc1 : Program.concrete Try.prog 1 = true := by kernel_rfl
@[go_sem] theorem st1 : strTy Try.prog 1 = false := by kernel_rfl
@[go_sem] theorem nk1 : nilKind Try.prog 1 = 3 := by kernel_rfl
@[go_sem] theorem zt1 : ztree Try.prog 1 = some (.lit .nilFunc) := by kernel_rfl
@[go_sem] theorem ty2 : tyInfo Try.prog 2 = some (false, 1) := by kernel_rfl
@[go_sem] theorem it2 : intTy Try.prog 2 = some .i64 := by kernel_rfl
@[go_sem] theorem by2 : byteTy Try.prog 2 = false := by kernel_rfl
@[go_sem] theorem cc2 : Program.concrete Try.prog 2 = true := by kernel_rfl
@[go_sem] theorem st2 : strTy Try.prog 2 = false := by kernel_rfl
@[go_sem] theorem zt2 : ztree Try.prog 2 = some (.lit (.int .i64 0)) := by kernel_rfl
@[go_sem] theorem ty3 : tyInfo Try.prog 3 = some (false, 1) := by kernel_rfl
@[go_sem] theorem it3 : intTy Try.prog 3 = some .i64 := by kernel_rfl
@[go_sem] theorem by3 : byteTy Try.prog 3 = false := by kernel_rfl
@[go_sem] theorem cc3 : Program.concrete Try.prog 3 = true := by kernel_rfl
@[go_sem] theorem st3 : strTy Try.prog 3 = false := by kernel_rfl
@[go_sem] theorem zt3 : ztree Try.prog 3 = some (.lit (.int .i64 0)) := by kernel_rfl
@[go_sem] theorem ty4 : tyInfo Try.prog 4 = some (false, 1) := by kernel_rfl
@[go_sem] theorem by4 : byteTy Try.prog 4 = false := by kernel_rfl
@[go_sem] theorem cc4 : Program.concrete Try.prog 4 = true := by kernel_rfl
@[go_sem] theorem st4 : strTy Try.prog 4 = false := by kernel_rfl
@[go_sem] theorem bt4 : boolTy Try.prog 4 = true := by kernel_rfl
@[go_sem] theorem zt4 : ztree Try.prog 4 = some (.lit (.bool false)) := by kernel_rfl
@[go_sem] theorem ty5 : tyInfo Try.prog 5 = some (false, 1) := by kernel_rfl
@[go_sem] theorem it5 : intTy Try.prog 5 = some .u8 := by kernel_rfl
@[go_sem] theorem by5 : byteTy Try.prog 5 = true := by kernel_rfl
@[go_sem] theorem sz1_5 : sizeIs Try.prog 5 1 = true := by kernel_rfl
@[go_sem] theorem cc5 : Program.concrete Try.prog 5 = true := by kernel_rfl
@[go_sem] theorem st5 : strTy Try.prog 5 = false := by kernel_rfl
@[go_sem] theorem zt5 : ztree Try.prog 5 = some (.lit (.int .u8 0)) := by kernel_rfl
@[go_sem] theorem ty9 : tyInfo Try.prog 9 = some (false, 1) := by kernel_rfl
@[go_sem] theorem by9 : byteTy Try.prog 9 = false := by kernel_rfl
@[go_sem] theorem cc9 : Program.concrete Try.prog 9 = true := by kernel_rfl
@[go_sem] theorem st9 : strTy Try.prog 9 = true := by kernel_rfl
@[go_sem] theorem zt9 : ztree Try.prog 9 = some (.lit (.string ByteArray.empty)) := by kernel_rfl
@[go_sem] theorem ty12 : tyInfo Try.prog 12 = some (false, 1) := by kernel_rfl
@[go_sem] theorem it12 : intTy Try.prog 12 = some .u64 := by kernel_rfl
@[go_sem] theorem by12 : byteTy Try.prog 12 = false := by kernel_rfl
@[go_sem] theorem cc12 : Program.concrete Try.prog 12 = true := by kernel_rfl
@[go_sem] theorem st12 : strTy Try.prog 12 = false := by kernel_rfl
@[go_sem] theorem zt12 : ztree Try.prog 12 = some (.lit (.int .u64 0)) := by kernel_rfl
@[go_sem] theorem ty13 : tyInfo Try.prog 13 = some (true, 2) := by kernel_rfl
@[go_sem] theorem by13 : byteTy Try.prog 13 = false := by kernel_rfl
@[go_sem] theorem cc13 : Program.concrete Try.prog 13 = true := by kernel_rfl
@[go_sem] theorem st13 : strTy Try.prog 13 = false := by kernel_rfl
@[go_sem] theorem zt13 : ztree Try.prog 13 = some (.agg [(.lit (.string ByteArray.empty)), (.lit (.int .u64 0))]) := by kernel_rfl
@[go_sem] theorem sp13 : splaces Try.prog 13 = some [(0, 1), (1, 1)] := by kernel_rfl
@[go_sem] theorem fo13_0 : fieldOff Try.prog 13 0 = some 0 := by kernel_rfl
@[go_sem] theorem fo13_1 : fieldOff Try.prog 13 1 = some 1 := by kernel_rfl
@[go_sem] theorem ty20 : tyInfo Try.prog 20 = some (false, 1) := by kernel_rfl
@[go_sem] theorem by20 : byteTy Try.prog 20 = false := by kernel_rfl
@[go_sem] theorem st20 : strTy Try.prog 20 = false := by kernel_rfl
@[go_sem] theorem zt20 : ztree Try.prog 20 = some (.lit .nilIface) := by kernel_rfl
@[go_sem] theorem ty21 : tyInfo Try.prog 21 = some (false, 1) := by kernel_rfl
@[go_sem] theorem it21 : intTy Try.prog 21 = some .i32 := by kernel_rfl
@[go_sem] theorem by21 : byteTy Try.prog 21 = false := by kernel_rfl
@[go_sem] theorem cc21 : Program.concrete Try.prog 21 = true := by kernel_rfl
@[go_sem] theorem st21 : strTy Try.prog 21 = false := by kernel_rfl
@[go_sem] theorem zt21 : ztree Try.prog 21 = some (.lit (.int .i32 0)) := by kernel_rfl
@[go_sem] theorem ty22 : tyInfo Try.prog 22 = some (false, 1) := by kernel_rfl
@[go_sem] theorem by22 : byteTy Try.prog 22 = false := by kernel_rfl
@[go_sem] theorem cc22 : Program.concrete Try.prog 22 = true := by kernel_rfl
@[go_sem] theorem st22 : strTy Try.prog 22 = false := by kernel_rfl
@[go_sem] theorem sl22 : sliceTy Try.prog 22 = some 35 := by kernel_rfl
@[go_sem] theorem si22 : sliceInfo Try.prog 22 = some (35, 33, 40, (.agg [(.lit (.int .i64 0)), (.agg ((List.replicate 32 (0 : UInt8)).map byteAV))])) := by kernel_rfl
@[go_sem] theorem nk22 : nilKind Try.prog 22 = 1 := by kernel_rfl
@[go_sem] theorem zt22 : ztree Try.prog 22 = some .nils := by kernel_rfl
@[go_sem] theorem ty23 : tyInfo Try.prog 23 = some (true, 2) := by kernel_rfl
@[go_sem] theorem by23 : byteTy Try.prog 23 = false := by kernel_rfl
@[go_sem] theorem cc23 : Program.concrete Try.prog 23 = true := by kernel_rfl
@[go_sem] theorem st23 : strTy Try.prog 23 = false := by kernel_rfl
@[go_sem] theorem zt23 : ztree Try.prog 23 = some (.agg [.nils, (.lit (.int .i64 0))]) := by kernel_rfl
@[go_sem] theorem sp23 : splaces Try.prog 23 = some [(0, 1), (1, 1)] := by kernel_rfl
@[go_sem] theorem fo23_0 : fieldOff Try.prog 23 0 = some 0 := by kernel_rfl
@[go_sem] theorem fo23_1 : fieldOff Try.prog 23 1 = some 1 := by kernel_rfl
@[go_sem] theorem ty24 : tyInfo Try.prog 24 = some (true, 2) := by kernel_rfl
@[go_sem] theorem by24 : byteTy Try.prog 24 = false := by kernel_rfl
@[go_sem] theorem cc24 : Program.concrete Try.prog 24 = true := by kernel_rfl
@[go_sem] theorem st24 : strTy Try.prog 24 = false := by kernel_rfl
@[go_sem] theorem zt24 : ztree Try.prog 24 = some (.agg [.nils, (.lit (.int .i64 0))]) := by kernel_rfl
@[go_sem] theorem sp24 : splaces Try.prog 24 = some [(0, 1), (1, 1)] := by kernel_rfl
@[go_sem] theorem fo24_0 : fieldOff Try.prog 24 0 = some 0 := by kernel_rfl
@[go_sem] theorem fo24_1 : fieldOff Try.prog 24 1 = some 1 := by kernel_rfl
@[go_sem] theorem ty25 : tyInfo Try.prog 25 = some (false, 1) := by kernel_rfl
@[go_sem] theorem by25 : byteTy Try.prog 25 = false := by kernel_rfl
@[go_sem] theorem cc25 : Program.concrete Try.prog 25 = true := by kernel_rfl
@[go_sem] theorem st25 : strTy Try.prog 25 = false := by kernel_rfl
@[go_sem] theorem sl25 : sliceTy Try.prog 25 = some 3 := by kernel_rfl
@[go_sem] theorem si25 : sliceInfo Try.prog 25 = some (3, 1, 8, (.lit (.int .i64 0))) := by kernel_rfl
@[go_sem] theorem nk25 : nilKind Try.prog 25 = 1 := by kernel_rfl
@[go_sem] theorem zt25 : ztree Try.prog 25 = some .nils := by kernel_rfl
@[go_sem] theorem ty26 : tyInfo Try.prog 26 = some (true, 32) := by kernel_rfl
@[go_sem] theorem by26 : byteTy Try.prog 26 = false := by kernel_rfl
@[go_sem] theorem cc26 : Program.concrete Try.prog 26 = true := by kernel_rfl
@[go_sem] theorem st26 : strTy Try.prog 26 = false := by kernel_rfl
@[go_sem] theorem ar26 : arrInfo Try.prog 26 = some (32, 5, 1) := by kernel_rfl
@[go_sem] theorem sp26 : splaces Try.prog 26 = none := by kernel_rfl
@[go_sem] theorem zt26 : ztree Try.prog 26 = some (.agg ((List.replicate 32 (0 : UInt8)).map byteAV)) := by kernel_rfl
@[go_sem] theorem ty27 : tyInfo Try.prog 27 = some (true, 32) := by kernel_rfl
@[go_sem] theorem by27 : byteTy Try.prog 27 = false := by kernel_rfl
@[go_sem] theorem cc27 : Program.concrete Try.prog 27 = true := by kernel_rfl
@[go_sem] theorem eq27 : eqTop Try.prog 27 = some (.bytes 32) := by kernel_rfl
@[go_sem] theorem st27 : strTy Try.prog 27 = false := by kernel_rfl
@[go_sem] theorem ar27 : arrInfo Try.prog 27 = some (32, 5, 1) := by kernel_rfl
@[go_sem] theorem sp27 : splaces Try.prog 27 = none := by kernel_rfl
@[go_sem] theorem zt27 : ztree Try.prog 27 = some (.agg ((List.replicate 32 (0 : UInt8)).map byteAV)) := by kernel_rfl
@[go_sem] theorem ty28 : tyInfo Try.prog 28 = some (false, 1) := by kernel_rfl
@[go_sem] theorem by28 : byteTy Try.prog 28 = false := by kernel_rfl
@[go_sem] theorem cc28 : Program.concrete Try.prog 28 = true := by kernel_rfl
@[go_sem] theorem st28 : strTy Try.prog 28 = false := by kernel_rfl
@[go_sem] theorem nk28 : nilKind Try.prog 28 = 3 := by kernel_rfl
@[go_sem] theorem zt28 : ztree Try.prog 28 = some (.lit .nilFunc) := by kernel_rfl
@[go_sem] theorem ty29 : tyInfo Try.prog 29 = some (false, 1) := by kernel_rfl
@[go_sem] theorem by29 : byteTy Try.prog 29 = false := by kernel_rfl
@[go_sem] theorem cc29 : Program.concrete Try.prog 29 = true := by kernel_rfl
@[go_sem] theorem st29 : strTy Try.prog 29 = false := by kernel_rfl
@[go_sem] theorem nk29 : nilKind Try.prog 29 = 2 := by kernel_rfl
@[go_sem] theorem zt29 : ztree Try.prog 29 = some (.lit (.pointer none)) := by kernel_rfl
@[go_sem] theorem ty30 : tyInfo Try.prog 30 = some (false, 1) := by kernel_rfl
@[go_sem] theorem by30 : byteTy Try.prog 30 = false := by kernel_rfl
@[go_sem] theorem cc30 : Program.concrete Try.prog 30 = true := by kernel_rfl
@[go_sem] theorem st30 : strTy Try.prog 30 = false := by kernel_rfl
@[go_sem] theorem nk30 : nilKind Try.prog 30 = 3 := by kernel_rfl
@[go_sem] theorem zt30 : ztree Try.prog 30 = some (.lit .nilFunc) := by kernel_rfl
@[go_sem] theorem ty31 : tyInfo Try.prog 31 = some (false, 1) := by kernel_rfl
@[go_sem] theorem by31 : byteTy Try.prog 31 = false := by kernel_rfl
@[go_sem] theorem cc31 : Program.concrete Try.prog 31 = true := by kernel_rfl
@[go_sem] theorem st31 : strTy Try.prog 31 = false := by kernel_rfl
@[go_sem] theorem nk31 : nilKind Try.prog 31 = 3 := by kernel_rfl
@[go_sem] theorem zt31 : ztree Try.prog 31 = some (.lit .nilFunc) := by kernel_rfl
@[go_sem] theorem ty32 : tyInfo Try.prog 32 = some (false, 1) := by kernel_rfl
@[go_sem] theorem by32 : byteTy Try.prog 32 = false := by kernel_rfl
@[go_sem] theorem cc32 : Program.concrete Try.prog 32 = true := by kernel_rfl
@[go_sem] theorem st32 : strTy Try.prog 32 = false := by kernel_rfl
@[go_sem] theorem nk32 : nilKind Try.prog 32 = 3 := by kernel_rfl
@[go_sem] theorem zt32 : ztree Try.prog 32 = some (.lit .nilFunc) := by kernel_rfl
@[go_sem] theorem ty33 : tyInfo Try.prog 33 = some (false, 1) := by kernel_rfl
@[go_sem] theorem by33 : byteTy Try.prog 33 = false := by kernel_rfl
@[go_sem] theorem cc33 : Program.concrete Try.prog 33 = true := by kernel_rfl
@[go_sem] theorem st33 : strTy Try.prog 33 = false := by kernel_rfl
@[go_sem] theorem sl33 : sliceTy Try.prog 33 = some 24 := by kernel_rfl
@[go_sem] theorem si33 : sliceInfo Try.prog 33 = some (24, 2, 32, (.agg [.nils, (.lit (.int .i64 0))])) := by kernel_rfl
@[go_sem] theorem nk33 : nilKind Try.prog 33 = 1 := by kernel_rfl
@[go_sem] theorem zt33 : ztree Try.prog 33 = some .nils := by kernel_rfl
@[go_sem] theorem ty34 : tyInfo Try.prog 34 = some (true, 33) := by kernel_rfl
@[go_sem] theorem by34 : byteTy Try.prog 34 = false := by kernel_rfl
@[go_sem] theorem cc34 : Program.concrete Try.prog 34 = true := by kernel_rfl
@[go_sem] theorem st34 : strTy Try.prog 34 = false := by kernel_rfl
@[go_sem] theorem zt34 : ztree Try.prog 34 = some (.agg [(.lit (.int .i64 0)), (.agg ((List.replicate 32 (0 : UInt8)).map byteAV))]) := by kernel_rfl
@[go_sem] theorem sp34 : splaces Try.prog 34 = some [(0, 1), (1, 32)] := by kernel_rfl
@[go_sem] theorem fo34_0 : fieldOff Try.prog 34 0 = some 0 := by kernel_rfl
@[go_sem] theorem fo34_1 : fieldOff Try.prog 34 1 = some 1 := by kernel_rfl
@[go_sem] theorem ty35 : tyInfo Try.prog 35 = some (true, 33) := by kernel_rfl
@[go_sem] theorem by35 : byteTy Try.prog 35 = false := by kernel_rfl
@[go_sem] theorem cc35 : Program.concrete Try.prog 35 = true := by kernel_rfl
@[go_sem] theorem eq35 : eqTop Try.prog 35 = some (.agg [.int, (.bytes 32)]) := by kernel_rfl
@[go_sem] theorem st35 : strTy Try.prog 35 = false := by kernel_rfl
@[go_sem] theorem zt35 : ztree Try.prog 35 = some (.agg [(.lit (.int .i64 0)), (.agg ((List.replicate 32 (0 : UInt8)).map byteAV))]) := by kernel_rfl
@[go_sem] theorem sp35 : splaces Try.prog 35 = some [(0, 1), (1, 32)] := by kernel_rfl
@[go_sem] theorem fo35_0 : fieldOff Try.prog 35 0 = some 0 := by kernel_rfl
@[go_sem] theorem fo35_1 : fieldOff Try.prog 35 1 = some 1 := by kernel_rfl
@[go_sem] theorem ty36 : tyInfo Try.prog 36 = some (false, 1) := by kernel_rfl
@[go_sem] theorem it36 : intTy Try.prog 36 = some .i64 := by kernel_rfl
@[go_sem] theorem by36 : byteTy Try.prog 36 = false := by kernel_rfl
@[go_sem] theorem cc36 : Program.concrete Try.prog 36 = true := by kernel_rfl
@[go_sem] theorem st36 : strTy Try.prog 36 = false := by kernel_rfl
@[go_sem] theorem zt36 : ztree Try.prog 36 = some (.lit (.int .i64 0)) := by kernel_rfl
@[go_sem] theorem ty38 : tyInfo Try.prog 38 = some (false, 1) := by kernel_rfl
@[go_sem] theorem by38 : byteTy Try.prog 38 = false := by kernel_rfl
@[go_sem] theorem cc38 : Program.concrete Try.prog 38 = true := by kernel_rfl
@[go_sem] theorem st38 : strTy Try.prog 38 = false := by kernel_rfl
@[go_sem] theorem nk38 : nilKind Try.prog 38 = 3 := by kernel_rfl
@[go_sem] theorem zt38 : ztree Try.prog 38 = some (.lit .nilFunc) := by kernel_rfl
@[go_sem] theorem ty39 : tyInfo Try.prog 39 = some (false, 1) := by kernel_rfl
@[go_sem] theorem by39 : byteTy Try.prog 39 = false := by kernel_rfl
@[go_sem] theorem cc39 : Program.concrete Try.prog 39 = true := by kernel_rfl
@[go_sem] theorem st39 : strTy Try.prog 39 = false := by kernel_rfl
@[go_sem] theorem nk39 : nilKind Try.prog 39 = 3 := by kernel_rfl
@[go_sem] theorem zt39 : ztree Try.prog 39 = some (.lit .nilFunc) := by kernel_rfl
@[go_sem] theorem ty41 : tyInfo Try.prog 41 = some (false, 1) := by kernel_rfl
@[go_sem] theorem by41 : byteTy Try.prog 41 = false := by kernel_rfl
@[go_sem] theorem cc41 : Program.concrete Try.prog 41 = true := by kernel_rfl
@[go_sem] theorem st41 : strTy Try.prog 41 = false := by kernel_rfl
@[go_sem] theorem nk41 : nilKind Try.prog 41 = 3 := by kernel_rfl
@[go_sem] theorem zt41 : ztree Try.prog 41 = some (.lit .nilFunc) := by kernel_rfl
@[go_sem] theorem ty42 : tyInfo Try.prog 42 = some (false, 1) := by kernel_rfl
@[go_sem] theorem by42 : byteTy Try.prog 42 = false := by kernel_rfl
@[go_sem] theorem cc42 : Program.concrete Try.prog 42 = true := by kernel_rfl
@[go_sem] theorem st42 : strTy Try.prog 42 = false := by kernel_rfl
@[go_sem] theorem nk42 : nilKind Try.prog 42 = 3 := by kernel_rfl
@[go_sem] theorem zt42 : ztree Try.prog 42 = some (.lit .nilFunc) := by kernel_rfl
@[go_sem] theorem ty43 : tyInfo Try.prog 43 = some (false, 1) := by kernel_rfl
@[go_sem] theorem by43 : byteTy Try.prog 43 = false := by kernel_rfl
@[go_sem] theorem cc43 : Program.concrete Try.prog 43 = true := by kernel_rfl
@[go_sem] theorem st43 : strTy Try.prog 43 = false := by kernel_rfl
@[go_sem] theorem nk43 : nilKind Try.prog 43 = 3 := by kernel_rfl
@[go_sem] theorem zt43 : ztree Try.prog 43 = some (.lit .nilFunc) := by kernel_rfl
@[go_sem] theorem ty44 : tyInfo Try.prog 44 = some (false, 1) := by kernel_rfl
@[go_sem] theorem by44 : byteTy Try.prog 44 = false := by kernel_rfl
@[go_sem] theorem cc44 : Program.concrete Try.prog 44 = true := by kernel_rfl
@[go_sem] theorem st44 : strTy Try.prog 44 = false := by kernel_rfl
@[go_sem] theorem nk44 : nilKind Try.prog 44 = 3 := by kernel_rfl
@[go_sem] theorem zt44 : ztree Try.prog 44 = some (.lit .nilFunc) := by kernel_rfl
@[go_sem] theorem ty45 : tyInfo Try.prog 45 = some (false, 1) := by kernel_rfl
@[go_sem] theorem by45 : byteTy Try.prog 45 = false := by kernel_rfl
@[go_sem] theorem cc45 : Program.concrete Try.prog 45 = true := by kernel_rfl
@[go_sem] theorem st45 : strTy Try.prog 45 = false := by kernel_rfl
@[go_sem] theorem nk45 : nilKind Try.prog 45 = 3 := by kernel_rfl
@[go_sem] theorem zt45 : ztree Try.prog 45 = some (.lit .nilFunc) := by kernel_rfl
@[go_sem] theorem ty46 : tyInfo Try.prog 46 = some (false, 1) := by kernel_rfl
@[go_sem] theorem by46 : byteTy Try.prog 46 = false := by kernel_rfl
@[go_sem] theorem cc46 : Program.concrete Try.prog 46 = true := by kernel_rfl
@[go_sem] theorem st46 : strTy Try.prog 46 = false := by kernel_rfl
@[go_sem] theorem nk46 : nilKind Try.prog 46 = 3 := by kernel_rfl
@[go_sem] theorem zt46 : ztree Try.prog 46 = some (.lit .nilFunc) := by kernel_rfl
@[go_sem] theorem ty47 : tyInfo Try.prog 47 = some (true, 2) := by kernel_rfl
@[go_sem] theorem by47 : byteTy Try.prog 47 = false := by kernel_rfl
@[go_sem] theorem cc47 : Program.concrete Try.prog 47 = true := by kernel_rfl
@[go_sem] theorem st47 : strTy Try.prog 47 = false := by kernel_rfl
@[go_sem] theorem zt47 : ztree Try.prog 47 = some (.agg [.nils, (.lit (.int .i64 0))]) := by kernel_rfl
@[go_sem] theorem sp47 : splaces Try.prog 47 = some [(0, 1), (1, 1)] := by kernel_rfl
@[go_sem] theorem fo47_0 : fieldOff Try.prog 47 0 = some 0 := by kernel_rfl
@[go_sem] theorem fo47_1 : fieldOff Try.prog 47 1 = some 1 := by kernel_rfl
@[go_sem] theorem ty48 : tyInfo Try.prog 48 = some (true, 2) := by kernel_rfl
@[go_sem] theorem by48 : byteTy Try.prog 48 = false := by kernel_rfl
@[go_sem] theorem cc48 : Program.concrete Try.prog 48 = true := by kernel_rfl
@[go_sem] theorem st48 : strTy Try.prog 48 = false := by kernel_rfl
@[go_sem] theorem zt48 : ztree Try.prog 48 = some (.agg [.nils, (.lit (.int .i64 0))]) := by kernel_rfl
@[go_sem] theorem sp48 : splaces Try.prog 48 = some [(0, 1), (1, 1)] := by kernel_rfl
@[go_sem] theorem fo48_0 : fieldOff Try.prog 48 0 = some 0 := by kernel_rfl
@[go_sem] theorem fo48_1 : fieldOff Try.prog 48 1 = some 1 := by kernel_rfl
@[go_sem] theorem ty49 : tyInfo Try.prog 49 = some (false, 1) := by kernel_rfl
@[go_sem] theorem by49 : byteTy Try.prog 49 = false := by kernel_rfl
@[go_sem] theorem cc49 : Program.concrete Try.prog 49 = true := by kernel_rfl
@[go_sem] theorem st49 : strTy Try.prog 49 = false := by kernel_rfl
@[go_sem] theorem nk49 : nilKind Try.prog 49 = 3 := by kernel_rfl
@[go_sem] theorem zt49 : ztree Try.prog 49 = some (.lit .nilFunc) := by kernel_rfl
@[go_sem] theorem ty50 : tyInfo Try.prog 50 = some (false, 1) := by kernel_rfl
@[go_sem] theorem by50 : byteTy Try.prog 50 = false := by kernel_rfl
@[go_sem] theorem cc50 : Program.concrete Try.prog 50 = true := by kernel_rfl
@[go_sem] theorem st50 : strTy Try.prog 50 = false := by kernel_rfl
@[go_sem] theorem nk50 : nilKind Try.prog 50 = 3 := by kernel_rfl
@[go_sem] theorem zt50 : ztree Try.prog 50 = some (.lit .nilFunc) := by kernel_rfl
@[go_sem] theorem ty51 : tyInfo Try.prog 51 = some (false, 1) := by kernel_rfl
@[go_sem] theorem by51 : byteTy Try.prog 51 = false := by kernel_rfl
@[go_sem] theorem cc51 : Program.concrete Try.prog 51 = true := by kernel_rfl
@[go_sem] theorem st51 : strTy Try.prog 51 = false := by kernel_rfl
@[go_sem] theorem nk51 : nilKind Try.prog 51 = 3 := by kernel_rfl
@[go_sem] theorem zt51 : ztree Try.prog 51 = some (.lit .nilFunc) := by kernel_rfl
@[go_sem] theorem ty52 : tyInfo Try.prog 52 = some (false, 1) := by kernel_rfl
@[go_sem] theorem by52 : byteTy Try.prog 52 = false := by kernel_rfl
@[go_sem] theorem cc52 : Program.concrete Try.prog 52 = true := by kernel_rfl
@[go_sem] theorem st52 : strTy Try.prog 52 = false := by kernel_rfl
@[go_sem] theorem nk52 : nilKind Try.prog 52 = 3 := by kernel_rfl
@[go_sem] theorem zt52 : ztree Try.prog 52 = some (.lit .nilFunc) := by kernel_rfl
@[go_sem] theorem ty53 : tyInfo Try.prog 53 = some (false, 1) := by kernel_rfl
@[go_sem] theorem by53 : byteTy Try.prog 53 = false := by kernel_rfl
@[go_sem] theorem cc53 : Program.concrete Try.prog 53 = true := by kernel_rfl
@[go_sem] theorem st53 : strTy Try.prog 53 = false := by kernel_rfl
@[go_sem] theorem nk53 : nilKind Try.prog 53 = 3 := by kernel_rfl
@[go_sem] theorem zt53 : ztree Try.prog 53 = some (.lit .nilFunc) := by kernel_rfl
@[go_sem] theorem ty54 : tyInfo Try.prog 54 = some (false, 1) := by kernel_rfl
@[go_sem] theorem by54 : byteTy Try.prog 54 = false := by kernel_rfl
@[go_sem] theorem cc54 : Program.concrete Try.prog 54 = true := by kernel_rfl
@[go_sem] theorem st54 : strTy Try.prog 54 = false := by kernel_rfl
@[go_sem] theorem nk54 : nilKind Try.prog 54 = 3 := by kernel_rfl
@[go_sem] theorem zt54 : ztree Try.prog 54 = some (.lit .nilFunc) := by kernel_rfl
@[go_sem] theorem ty55 : tyInfo Try.prog 55 = some (true, 33) := by kernel_rfl
@[go_sem] theorem by55 : byteTy Try.prog 55 = false := by kernel_rfl
@[go_sem] theorem cc55 : Program.concrete Try.prog 55 = true := by kernel_rfl
@[go_sem] theorem eq55 : eqTop Try.prog 55 = some (.agg [.int, (.bytes 32)]) := by kernel_rfl
@[go_sem] theorem st55 : strTy Try.prog 55 = false := by kernel_rfl
@[go_sem] theorem zt55 : ztree Try.prog 55 = some (.agg [(.lit (.int .i64 0)), (.agg ((List.replicate 32 (0 : UInt8)).map byteAV))]) := by kernel_rfl
@[go_sem] theorem sp55 : splaces Try.prog 55 = some [(0, 1), (1, 32)] := by kernel_rfl
@[go_sem] theorem fo55_0 : fieldOff Try.prog 55 0 = some 0 := by kernel_rfl
@[go_sem] theorem fo55_1 : fieldOff Try.prog 55 1 = some 1 := by kernel_rfl
@[go_sem] theorem ty56 : tyInfo Try.prog 56 = some (false, 1) := by kernel_rfl
@[go_sem] theorem by56 : byteTy Try.prog 56 = false := by kernel_rfl
@[go_sem] theorem cc56 : Program.concrete Try.prog 56 = true := by kernel_rfl
@[go_sem] theorem st56 : strTy Try.prog 56 = false := by kernel_rfl
@[go_sem] theorem nk56 : nilKind Try.prog 56 = 3 := by kernel_rfl
@[go_sem] theorem zt56 : ztree Try.prog 56 = some (.lit .nilFunc) := by kernel_rfl
@[go_sem] theorem ty57 : tyInfo Try.prog 57 = some (false, 1) := by kernel_rfl
@[go_sem] theorem by57 : byteTy Try.prog 57 = false := by kernel_rfl
@[go_sem] theorem cc57 : Program.concrete Try.prog 57 = true := by kernel_rfl
@[go_sem] theorem st57 : strTy Try.prog 57 = false := by kernel_rfl
@[go_sem] theorem nk57 : nilKind Try.prog 57 = 3 := by kernel_rfl
@[go_sem] theorem zt57 : ztree Try.prog 57 = some (.lit .nilFunc) := by kernel_rfl
@[go_sem] theorem ty58 : tyInfo Try.prog 58 = some (false, 1) := by kernel_rfl
@[go_sem] theorem by58 : byteTy Try.prog 58 = false := by kernel_rfl
@[go_sem] theorem cc58 : Program.concrete Try.prog 58 = true := by kernel_rfl
@[go_sem] theorem st58 : strTy Try.prog 58 = false := by kernel_rfl
@[go_sem] theorem nk58 : nilKind Try.prog 58 = 3 := by kernel_rfl
@[go_sem] theorem zt58 : ztree Try.prog 58 = some (.lit .nilFunc) := by kernel_rfl
@[go_sem] theorem ty64 : tyInfo Try.prog 64 = some (false, 1) := by kernel_rfl
@[go_sem] theorem by64 : byteTy Try.prog 64 = false := by kernel_rfl
@[go_sem] theorem cc64 : Program.concrete Try.prog 64 = true := by kernel_rfl
@[go_sem] theorem st64 : strTy Try.prog 64 = false := by kernel_rfl
@[go_sem] theorem nk64 : nilKind Try.prog 64 = 3 := by kernel_rfl
@[go_sem] theorem zt64 : ztree Try.prog 64 = some (.lit .nilFunc) := by kernel_rfl
@[go_sem] theorem ty65 : tyInfo Try.prog 65 = some (false, 1) := by kernel_rfl
@[go_sem] theorem it65 : intTy Try.prog 65 = some .u32 := by kernel_rfl
@[go_sem] theorem by65 : byteTy Try.prog 65 = false := by kernel_rfl
@[go_sem] theorem cc65 : Program.concrete Try.prog 65 = true := by kernel_rfl
@[go_sem] theorem st65 : strTy Try.prog 65 = false := by kernel_rfl
@[go_sem] theorem zt65 : ztree Try.prog 65 = some (.lit (.int .u32 0)) := by kernel_rfl
@[go_sem] theorem ty69 : tyInfo Try.prog 69 = some (false, 1) := by kernel_rfl
@[go_sem] theorem by69 : byteTy Try.prog 69 = false := by kernel_rfl
@[go_sem] theorem cc69 : Program.concrete Try.prog 69 = true := by kernel_rfl
@[go_sem] theorem st69 : strTy Try.prog 69 = false := by kernel_rfl
@[go_sem] theorem nk69 : nilKind Try.prog 69 = 2 := by kernel_rfl
@[go_sem] theorem zt69 : ztree Try.prog 69 = some (.lit (.pointer none)) := by kernel_rfl
end Go.Proofs.Ytaelnglalpiemaa
