/- Closed facts on the types of this seat's program, each by the kernel (written by facts.py off the given translation). -/
import Derived.Test.YtmhehlfocfhpkaaRows
import Derived.Test.YtmhehlfocfhpkaaC1
import Derived.KernelRfl
namespace Go.Proofs.Ytmhehlfocfhpkaa
open Go.Ab

theorem mixed : Try.prog.follows .mixedOrders = true := by kernel_rfl
@[go_sem] theorem ty1 : tyInfo Try.prog 1 = some (false, 1) := by kernel_rfl
@[go_sem] theorem by1 : byteTy Try.prog 1 = false := by kernel_rfl
@[go_sem] theorem cc1 : Program.concrete Try.prog 1 = true := by kernel_rfl
@[go_sem] theorem st1 : strTy Try.prog 1 = false := by kernel_rfl
@[go_sem] theorem nk1 : nilKind Try.prog 1 = 3 := by kernel_rfl
@[go_sem] theorem zt1 : ztree Try.prog 1 = some (.lit .nilFunc) := by kernel_rfl
@[go_sem] theorem ty2 : tyInfo Try.prog 2 = some (false, 1) := by kernel_rfl
@[go_sem] theorem it2 : intTy Try.prog 2 = some .i64 := by kernel_rfl
@[go_sem] theorem by2 : byteTy Try.prog 2 = false := by kernel_rfl
@[go_sem] theorem cc2 : Program.concrete Try.prog 2 = true := by kernel_rfl
@[go_sem] theorem st2 : strTy Try.prog 2 = false := by kernel_rfl
@[go_sem] theorem zt2 : ztree Try.prog 2 = some (.lit (.int .i64 0)) := by kernel_rfl
@[go_sem] theorem ty3 : tyInfo Try.prog 3 = some (false, 1) := by kernel_rfl
@[go_sem] theorem it3 : intTy Try.prog 3 = some .i64 := by kernel_rfl
@[go_sem] theorem by3 : byteTy Try.prog 3 = false := by kernel_rfl
@[go_sem] theorem cc3 : Program.concrete Try.prog 3 = true := by kernel_rfl
@[go_sem] theorem st3 : strTy Try.prog 3 = false := by kernel_rfl
@[go_sem] theorem zt3 : ztree Try.prog 3 = some (.lit (.int .i64 0)) := by kernel_rfl
@[go_sem] theorem ty4 : tyInfo Try.prog 4 = some (false, 1) := by kernel_rfl
@[go_sem] theorem by4 : byteTy Try.prog 4 = false := by kernel_rfl
@[go_sem] theorem cc4 : Program.concrete Try.prog 4 = true := by kernel_rfl
@[go_sem] theorem st4 : strTy Try.prog 4 = false := by kernel_rfl
@[go_sem] theorem bt4 : boolTy Try.prog 4 = true := by kernel_rfl
@[go_sem] theorem zt4 : ztree Try.prog 4 = some (.lit (.bool false)) := by kernel_rfl
@[go_sem] theorem ty5 : tyInfo Try.prog 5 = some (false, 1) := by kernel_rfl
@[go_sem] theorem it5 : intTy Try.prog 5 = some .u8 := by kernel_rfl
@[go_sem] theorem by5 : byteTy Try.prog 5 = true := by kernel_rfl
@[go_sem] theorem sz1_5 : sizeIs Try.prog 5 1 = true := by kernel_rfl
@[go_sem] theorem cc5 : Program.concrete Try.prog 5 = true := by kernel_rfl
@[go_sem] theorem st5 : strTy Try.prog 5 = false := by kernel_rfl
@[go_sem] theorem zt5 : ztree Try.prog 5 = some (.lit (.int .u8 0)) := by kernel_rfl
@[go_sem] theorem ty9 : tyInfo Try.prog 9 = some (false, 1) := by kernel_rfl
@[go_sem] theorem by9 : byteTy Try.prog 9 = false := by kernel_rfl
@[go_sem] theorem cc9 : Program.concrete Try.prog 9 = true := by kernel_rfl
@[go_sem] theorem st9 : strTy Try.prog 9 = true := by kernel_rfl
@[go_sem] theorem zt9 : ztree Try.prog 9 = some (.lit (.string ByteArray.empty)) := by kernel_rfl
@[go_sem] theorem ty12 : tyInfo Try.prog 12 = some (false, 1) := by kernel_rfl
@[go_sem] theorem it12 : intTy Try.prog 12 = some .u64 := by kernel_rfl
@[go_sem] theorem by12 : byteTy Try.prog 12 = false := by kernel_rfl
@[go_sem] theorem cc12 : Program.concrete Try.prog 12 = true := by kernel_rfl
@[go_sem] theorem st12 : strTy Try.prog 12 = false := by kernel_rfl
@[go_sem] theorem zt12 : ztree Try.prog 12 = some (.lit (.int .u64 0)) := by kernel_rfl
@[go_sem] theorem ty13 : tyInfo Try.prog 13 = some (true, 2) := by kernel_rfl
@[go_sem] theorem by13 : byteTy Try.prog 13 = false := by kernel_rfl
@[go_sem] theorem cc13 : Program.concrete Try.prog 13 = true := by kernel_rfl
@[go_sem] theorem st13 : strTy Try.prog 13 = false := by kernel_rfl
@[go_sem] theorem zt13 : ztree Try.prog 13 = some (.agg [(.lit (.string ByteArray.empty)), (.lit (.int .u64 0))]) := by kernel_rfl
@[go_sem] theorem sp13 : splaces Try.prog 13 = some [(0, 1), (1, 1)] := by kernel_rfl
@[go_sem] theorem fo13_0 : fieldOff Try.prog 13 0 = some 0 := by kernel_rfl
@[go_sem] theorem fo13_1 : fieldOff Try.prog 13 1 = some 1 := by kernel_rfl
@[go_sem] theorem ty20 : tyInfo Try.prog 20 = some (false, 1) := by kernel_rfl
@[go_sem] theorem by20 : byteTy Try.prog 20 = false := by kernel_rfl
@[go_sem] theorem st20 : strTy Try.prog 20 = false := by kernel_rfl
@[go_sem] theorem zt20 : ztree Try.prog 20 = some (.lit .nilIface) := by kernel_rfl
@[go_sem] theorem ty21 : tyInfo Try.prog 21 = some (false, 1) := by kernel_rfl
@[go_sem] theorem it21 : intTy Try.prog 21 = some .i32 := by kernel_rfl
@[go_sem] theorem by21 : byteTy Try.prog 21 = false := by kernel_rfl
@[go_sem] theorem cc21 : Program.concrete Try.prog 21 = true := by kernel_rfl
@[go_sem] theorem st21 : strTy Try.prog 21 = false := by kernel_rfl
@[go_sem] theorem zt21 : ztree Try.prog 21 = some (.lit (.int .i32 0)) := by kernel_rfl
@[go_sem] theorem ty22 : tyInfo Try.prog 22 = some (false, 1) := by kernel_rfl
@[go_sem] theorem by22 : byteTy Try.prog 22 = false := by kernel_rfl
@[go_sem] theorem cc22 : Program.concrete Try.prog 22 = true := by kernel_rfl
@[go_sem] theorem st22 : strTy Try.prog 22 = false := by kernel_rfl
@[go_sem] theorem sl22 : sliceTy Try.prog 22 = some 5 := by kernel_rfl
@[go_sem] theorem si22 : sliceInfo Try.prog 22 = some (5, 1, 1, (.lit (.int .u8 0))) := by kernel_rfl
@[go_sem] theorem nk22 : nilKind Try.prog 22 = 1 := by kernel_rfl
@[go_sem] theorem zt22 : ztree Try.prog 22 = some .nils := by kernel_rfl
@[go_sem] theorem ty23 : tyInfo Try.prog 23 = some (false, 1) := by kernel_rfl
@[go_sem] theorem it23 : intTy Try.prog 23 = some .u16 := by kernel_rfl
@[go_sem] theorem by23 : byteTy Try.prog 23 = false := by kernel_rfl
@[go_sem] theorem cc23 : Program.concrete Try.prog 23 = true := by kernel_rfl
@[go_sem] theorem st23 : strTy Try.prog 23 = false := by kernel_rfl
@[go_sem] theorem zt23 : ztree Try.prog 23 = some (.lit (.int .u16 0)) := by kernel_rfl
@[go_sem] theorem ty24 : tyInfo Try.prog 24 = some (false, 1) := by kernel_rfl
@[go_sem] theorem it24 : intTy Try.prog 24 = some .i64 := by kernel_rfl
@[go_sem] theorem by24 : byteTy Try.prog 24 = false := by kernel_rfl
@[go_sem] theorem cc24 : Program.concrete Try.prog 24 = true := by kernel_rfl
@[go_sem] theorem st24 : strTy Try.prog 24 = false := by kernel_rfl
@[go_sem] theorem zt24 : ztree Try.prog 24 = some (.lit (.int .i64 0)) := by kernel_rfl
@[go_sem] theorem ty26 : tyInfo Try.prog 26 = some (false, 1) := by kernel_rfl
@[go_sem] theorem by26 : byteTy Try.prog 26 = false := by kernel_rfl
@[go_sem] theorem cc26 : Program.concrete Try.prog 26 = true := by kernel_rfl
@[go_sem] theorem st26 : strTy Try.prog 26 = false := by kernel_rfl
@[go_sem] theorem nk26 : nilKind Try.prog 26 = 3 := by kernel_rfl
@[go_sem] theorem zt26 : ztree Try.prog 26 = some (.lit .nilFunc) := by kernel_rfl
@[go_sem] theorem ty27 : tyInfo Try.prog 27 = some (false, 1) := by kernel_rfl
@[go_sem] theorem by27 : byteTy Try.prog 27 = false := by kernel_rfl
@[go_sem] theorem cc27 : Program.concrete Try.prog 27 = true := by kernel_rfl
@[go_sem] theorem st27 : strTy Try.prog 27 = false := by kernel_rfl
@[go_sem] theorem nk27 : nilKind Try.prog 27 = 3 := by kernel_rfl
@[go_sem] theorem zt27 : ztree Try.prog 27 = some (.lit .nilFunc) := by kernel_rfl
@[go_sem] theorem ty28 : tyInfo Try.prog 28 = some (false, 1) := by kernel_rfl
@[go_sem] theorem by28 : byteTy Try.prog 28 = false := by kernel_rfl
@[go_sem] theorem cc28 : Program.concrete Try.prog 28 = true := by kernel_rfl
@[go_sem] theorem st28 : strTy Try.prog 28 = false := by kernel_rfl
@[go_sem] theorem nk28 : nilKind Try.prog 28 = 3 := by kernel_rfl
@[go_sem] theorem zt28 : ztree Try.prog 28 = some (.lit .nilFunc) := by kernel_rfl
@[go_sem] theorem ty29 : tyInfo Try.prog 29 = some (false, 1) := by kernel_rfl
@[go_sem] theorem by29 : byteTy Try.prog 29 = false := by kernel_rfl
@[go_sem] theorem cc29 : Program.concrete Try.prog 29 = true := by kernel_rfl
@[go_sem] theorem st29 : strTy Try.prog 29 = false := by kernel_rfl
@[go_sem] theorem nk29 : nilKind Try.prog 29 = 3 := by kernel_rfl
@[go_sem] theorem zt29 : ztree Try.prog 29 = some (.lit .nilFunc) := by kernel_rfl
@[go_sem] theorem ty30 : tyInfo Try.prog 30 = some (false, 1) := by kernel_rfl
@[go_sem] theorem by30 : byteTy Try.prog 30 = false := by kernel_rfl
@[go_sem] theorem cc30 : Program.concrete Try.prog 30 = true := by kernel_rfl
@[go_sem] theorem st30 : strTy Try.prog 30 = false := by kernel_rfl
@[go_sem] theorem sl30 : sliceTy Try.prog 30 = some 3 := by kernel_rfl
@[go_sem] theorem si30 : sliceInfo Try.prog 30 = some (3, 1, 8, (.lit (.int .i64 0))) := by kernel_rfl
@[go_sem] theorem nk30 : nilKind Try.prog 30 = 1 := by kernel_rfl
@[go_sem] theorem zt30 : ztree Try.prog 30 = some .nils := by kernel_rfl
@[go_sem] theorem ty31 : tyInfo Try.prog 31 = some (false, 1) := by kernel_rfl
@[go_sem] theorem by31 : byteTy Try.prog 31 = false := by kernel_rfl
@[go_sem] theorem cc31 : Program.concrete Try.prog 31 = true := by kernel_rfl
@[go_sem] theorem st31 : strTy Try.prog 31 = false := by kernel_rfl
@[go_sem] theorem nk31 : nilKind Try.prog 31 = 3 := by kernel_rfl
@[go_sem] theorem zt31 : ztree Try.prog 31 = some (.lit .nilFunc) := by kernel_rfl
@[go_sem] theorem ty32 : tyInfo Try.prog 32 = some (false, 1) := by kernel_rfl
@[go_sem] theorem by32 : byteTy Try.prog 32 = false := by kernel_rfl
@[go_sem] theorem cc32 : Program.concrete Try.prog 32 = true := by kernel_rfl
@[go_sem] theorem st32 : strTy Try.prog 32 = false := by kernel_rfl
@[go_sem] theorem nk32 : nilKind Try.prog 32 = 2 := by kernel_rfl
@[go_sem] theorem zt32 : ztree Try.prog 32 = some (.lit (.pointer none)) := by kernel_rfl
@[go_sem] theorem ty33 : tyInfo Try.prog 33 = some (false, 1) := by kernel_rfl
@[go_sem] theorem by33 : byteTy Try.prog 33 = false := by kernel_rfl
@[go_sem] theorem cc33 : Program.concrete Try.prog 33 = true := by kernel_rfl
@[go_sem] theorem st33 : strTy Try.prog 33 = false := by kernel_rfl
@[go_sem] theorem nk33 : nilKind Try.prog 33 = 3 := by kernel_rfl
@[go_sem] theorem zt33 : ztree Try.prog 33 = some (.lit .nilFunc) := by kernel_rfl
@[go_sem] theorem ty34 : tyInfo Try.prog 34 = some (false, 1) := by kernel_rfl
@[go_sem] theorem by34 : byteTy Try.prog 34 = false := by kernel_rfl
@[go_sem] theorem cc34 : Program.concrete Try.prog 34 = true := by kernel_rfl
@[go_sem] theorem st34 : strTy Try.prog 34 = false := by kernel_rfl
@[go_sem] theorem nk34 : nilKind Try.prog 34 = 3 := by kernel_rfl
@[go_sem] theorem zt34 : ztree Try.prog 34 = some (.lit .nilFunc) := by kernel_rfl
@[go_sem] theorem ty35 : tyInfo Try.prog 35 = some (false, 1) := by kernel_rfl
@[go_sem] theorem by35 : byteTy Try.prog 35 = false := by kernel_rfl
@[go_sem] theorem cc35 : Program.concrete Try.prog 35 = true := by kernel_rfl
@[go_sem] theorem st35 : strTy Try.prog 35 = false := by kernel_rfl
@[go_sem] theorem nk35 : nilKind Try.prog 35 = 3 := by kernel_rfl
@[go_sem] theorem zt35 : ztree Try.prog 35 = some (.lit .nilFunc) := by kernel_rfl
@[go_sem] theorem ty36 : tyInfo Try.prog 36 = some (false, 1) := by kernel_rfl
@[go_sem] theorem by36 : byteTy Try.prog 36 = false := by kernel_rfl
@[go_sem] theorem cc36 : Program.concrete Try.prog 36 = true := by kernel_rfl
@[go_sem] theorem st36 : strTy Try.prog 36 = false := by kernel_rfl
@[go_sem] theorem nk36 : nilKind Try.prog 36 = 3 := by kernel_rfl
@[go_sem] theorem zt36 : ztree Try.prog 36 = some (.lit .nilFunc) := by kernel_rfl
@[go_sem] theorem ty37 : tyInfo Try.prog 37 = some (false, 1) := by kernel_rfl
@[go_sem] theorem by37 : byteTy Try.prog 37 = false := by kernel_rfl
@[go_sem] theorem cc37 : Program.concrete Try.prog 37 = true := by kernel_rfl
@[go_sem] theorem st37 : strTy Try.prog 37 = false := by kernel_rfl
@[go_sem] theorem nk37 : nilKind Try.prog 37 = 3 := by kernel_rfl
@[go_sem] theorem zt37 : ztree Try.prog 37 = some (.lit .nilFunc) := by kernel_rfl
@[go_sem] theorem ty39 : tyInfo Try.prog 39 = some (false, 1) := by kernel_rfl
@[go_sem] theorem by39 : byteTy Try.prog 39 = false := by kernel_rfl
@[go_sem] theorem cc39 : Program.concrete Try.prog 39 = true := by kernel_rfl
@[go_sem] theorem st39 : strTy Try.prog 39 = false := by kernel_rfl
@[go_sem] theorem nk39 : nilKind Try.prog 39 = 3 := by kernel_rfl
@[go_sem] theorem zt39 : ztree Try.prog 39 = some (.lit .nilFunc) := by kernel_rfl
@[go_sem] theorem ty40 : tyInfo Try.prog 40 = some (false, 1) := by kernel_rfl
@[go_sem] theorem by40 : byteTy Try.prog 40 = false := by kernel_rfl
@[go_sem] theorem cc40 : Program.concrete Try.prog 40 = true := by kernel_rfl
@[go_sem] theorem st40 : strTy Try.prog 40 = false := by kernel_rfl
@[go_sem] theorem sl40 : sliceTy Try.prog 40 = some 22 := by kernel_rfl
@[go_sem] theorem si40 : sliceInfo Try.prog 40 = some (22, 1, 24, .nils) := by kernel_rfl
@[go_sem] theorem nk40 : nilKind Try.prog 40 = 1 := by kernel_rfl
@[go_sem] theorem zt40 : ztree Try.prog 40 = some .nils := by kernel_rfl
@[go_sem] theorem ty41 : tyInfo Try.prog 41 = some (false, 1) := by kernel_rfl
@[go_sem] theorem by41 : byteTy Try.prog 41 = false := by kernel_rfl
@[go_sem] theorem cc41 : Program.concrete Try.prog 41 = true := by kernel_rfl
@[go_sem] theorem st41 : strTy Try.prog 41 = false := by kernel_rfl
@[go_sem] theorem nk41 : nilKind Try.prog 41 = 3 := by kernel_rfl
@[go_sem] theorem zt41 : ztree Try.prog 41 = some (.lit .nilFunc) := by kernel_rfl
@[go_sem] theorem ty42 : tyInfo Try.prog 42 = some (false, 1) := by kernel_rfl
@[go_sem] theorem by42 : byteTy Try.prog 42 = false := by kernel_rfl
@[go_sem] theorem cc42 : Program.concrete Try.prog 42 = true := by kernel_rfl
@[go_sem] theorem st42 : strTy Try.prog 42 = false := by kernel_rfl
@[go_sem] theorem nk42 : nilKind Try.prog 42 = 3 := by kernel_rfl
@[go_sem] theorem zt42 : ztree Try.prog 42 = some (.lit .nilFunc) := by kernel_rfl
@[go_sem] theorem ty43 : tyInfo Try.prog 43 = some (false, 1) := by kernel_rfl
@[go_sem] theorem by43 : byteTy Try.prog 43 = false := by kernel_rfl
@[go_sem] theorem cc43 : Program.concrete Try.prog 43 = true := by kernel_rfl
@[go_sem] theorem st43 : strTy Try.prog 43 = false := by kernel_rfl
@[go_sem] theorem nk43 : nilKind Try.prog 43 = 3 := by kernel_rfl
@[go_sem] theorem zt43 : ztree Try.prog 43 = some (.lit .nilFunc) := by kernel_rfl
@[go_sem] theorem ty44 : tyInfo Try.prog 44 = some (false, 1) := by kernel_rfl
@[go_sem] theorem by44 : byteTy Try.prog 44 = false := by kernel_rfl
@[go_sem] theorem cc44 : Program.concrete Try.prog 44 = true := by kernel_rfl
@[go_sem] theorem st44 : strTy Try.prog 44 = false := by kernel_rfl
@[go_sem] theorem nk44 : nilKind Try.prog 44 = 3 := by kernel_rfl
@[go_sem] theorem zt44 : ztree Try.prog 44 = some (.lit .nilFunc) := by kernel_rfl
@[go_sem] theorem ty45 : tyInfo Try.prog 45 = some (false, 1) := by kernel_rfl
@[go_sem] theorem by45 : byteTy Try.prog 45 = false := by kernel_rfl
@[go_sem] theorem cc45 : Program.concrete Try.prog 45 = true := by kernel_rfl
@[go_sem] theorem st45 : strTy Try.prog 45 = false := by kernel_rfl
@[go_sem] theorem nk45 : nilKind Try.prog 45 = 3 := by kernel_rfl
@[go_sem] theorem zt45 : ztree Try.prog 45 = some (.lit .nilFunc) := by kernel_rfl
@[go_sem] theorem ty47 : tyInfo Try.prog 47 = some (false, 1) := by kernel_rfl
@[go_sem] theorem by47 : byteTy Try.prog 47 = false := by kernel_rfl
@[go_sem] theorem cc47 : Program.concrete Try.prog 47 = true := by kernel_rfl
@[go_sem] theorem st47 : strTy Try.prog 47 = false := by kernel_rfl
@[go_sem] theorem nk47 : nilKind Try.prog 47 = 3 := by kernel_rfl
@[go_sem] theorem zt47 : ztree Try.prog 47 = some (.lit .nilFunc) := by kernel_rfl
@[go_sem] theorem ty48 : tyInfo Try.prog 48 = some (false, 1) := by kernel_rfl
@[go_sem] theorem by48 : byteTy Try.prog 48 = false := by kernel_rfl
@[go_sem] theorem cc48 : Program.concrete Try.prog 48 = true := by kernel_rfl
@[go_sem] theorem st48 : strTy Try.prog 48 = false := by kernel_rfl
@[go_sem] theorem nk48 : nilKind Try.prog 48 = 3 := by kernel_rfl
@[go_sem] theorem zt48 : ztree Try.prog 48 = some (.lit .nilFunc) := by kernel_rfl
@[go_sem] theorem ty49 : tyInfo Try.prog 49 = some (false, 1) := by kernel_rfl
@[go_sem] theorem by49 : byteTy Try.prog 49 = false := by kernel_rfl
@[go_sem] theorem cc49 : Program.concrete Try.prog 49 = true := by kernel_rfl
@[go_sem] theorem st49 : strTy Try.prog 49 = false := by kernel_rfl
@[go_sem] theorem nk49 : nilKind Try.prog 49 = 3 := by kernel_rfl
@[go_sem] theorem zt49 : ztree Try.prog 49 = some (.lit .nilFunc) := by kernel_rfl
@[go_sem] theorem ty50 : tyInfo Try.prog 50 = some (false, 1) := by kernel_rfl
@[go_sem] theorem by50 : byteTy Try.prog 50 = false := by kernel_rfl
@[go_sem] theorem cc50 : Program.concrete Try.prog 50 = true := by kernel_rfl
@[go_sem] theorem st50 : strTy Try.prog 50 = false := by kernel_rfl
@[go_sem] theorem nk50 : nilKind Try.prog 50 = 3 := by kernel_rfl
@[go_sem] theorem zt50 : ztree Try.prog 50 = some (.lit .nilFunc) := by kernel_rfl
@[go_sem] theorem ty52 : tyInfo Try.prog 52 = some (false, 1) := by kernel_rfl
@[go_sem] theorem by52 : byteTy Try.prog 52 = false := by kernel_rfl
@[go_sem] theorem cc52 : Program.concrete Try.prog 52 = true := by kernel_rfl
@[go_sem] theorem st52 : strTy Try.prog 52 = false := by kernel_rfl
@[go_sem] theorem nk52 : nilKind Try.prog 52 = 3 := by kernel_rfl
@[go_sem] theorem zt52 : ztree Try.prog 52 = some (.lit .nilFunc) := by kernel_rfl
@[go_sem] theorem ty53 : tyInfo Try.prog 53 = some (false, 1) := by kernel_rfl
@[go_sem] theorem by53 : byteTy Try.prog 53 = false := by kernel_rfl
@[go_sem] theorem cc53 : Program.concrete Try.prog 53 = true := by kernel_rfl
@[go_sem] theorem st53 : strTy Try.prog 53 = false := by kernel_rfl
@[go_sem] theorem nk53 : nilKind Try.prog 53 = 3 := by kernel_rfl
@[go_sem] theorem zt53 : ztree Try.prog 53 = some (.lit .nilFunc) := by kernel_rfl
@[go_sem] theorem ty54 : tyInfo Try.prog 54 = some (false, 1) := by kernel_rfl
@[go_sem] theorem by54 : byteTy Try.prog 54 = false := by kernel_rfl
@[go_sem] theorem cc54 : Program.concrete Try.prog 54 = true := by kernel_rfl
@[go_sem] theorem st54 : strTy Try.prog 54 = false := by kernel_rfl
@[go_sem] theorem nk54 : nilKind Try.prog 54 = 3 := by kernel_rfl
@[go_sem] theorem zt54 : ztree Try.prog 54 = some (.lit .nilFunc) := by kernel_rfl
@[go_sem] theorem ty55 : tyInfo Try.prog 55 = some (false, 1) := by kernel_rfl
@[go_sem] theorem by55 : byteTy Try.prog 55 = false := by kernel_rfl
@[go_sem] theorem cc55 : Program.concrete Try.prog 55 = true := by kernel_rfl
@[go_sem] theorem st55 : strTy Try.prog 55 = false := by kernel_rfl
@[go_sem] theorem nk55 : nilKind Try.prog 55 = 3 := by kernel_rfl
@[go_sem] theorem zt55 : ztree Try.prog 55 = some (.lit .nilFunc) := by kernel_rfl
@[go_sem] theorem ty56 : tyInfo Try.prog 56 = some (false, 1) := by kernel_rfl
@[go_sem] theorem by56 : byteTy Try.prog 56 = false := by kernel_rfl
@[go_sem] theorem cc56 : Program.concrete Try.prog 56 = true := by kernel_rfl
@[go_sem] theorem st56 : strTy Try.prog 56 = false := by kernel_rfl
@[go_sem] theorem nk56 : nilKind Try.prog 56 = 3 := by kernel_rfl
@[go_sem] theorem zt56 : ztree Try.prog 56 = some (.lit .nilFunc) := by kernel_rfl
@[go_sem] theorem ty57 : tyInfo Try.prog 57 = some (false, 1) := by kernel_rfl
@[go_sem] theorem it57 : intTy Try.prog 57 = some .u64 := by kernel_rfl
@[go_sem] theorem by57 : byteTy Try.prog 57 = false := by kernel_rfl
@[go_sem] theorem cc57 : Program.concrete Try.prog 57 = true := by kernel_rfl
@[go_sem] theorem st57 : strTy Try.prog 57 = false := by kernel_rfl
@[go_sem] theorem zt57 : ztree Try.prog 57 = some (.lit (.int .u64 0)) := by kernel_rfl
@[go_sem] theorem ty58 : tyInfo Try.prog 58 = some (true, 2) := by kernel_rfl
@[go_sem] theorem by58 : byteTy Try.prog 58 = false := by kernel_rfl
@[go_sem] theorem cc58 : Program.concrete Try.prog 58 = true := by kernel_rfl
@[go_sem] theorem st58 : strTy Try.prog 58 = false := by kernel_rfl
@[go_sem] theorem zt58 : ztree Try.prog 58 = some (.agg [.nils, (.lit (.int .i64 0))]) := by kernel_rfl
@[go_sem] theorem sp58 : splaces Try.prog 58 = some [(0, 1), (1, 1)] := by kernel_rfl
@[go_sem] theorem fo58_0 : fieldOff Try.prog 58 0 = some 0 := by kernel_rfl
@[go_sem] theorem fo58_1 : fieldOff Try.prog 58 1 = some 1 := by kernel_rfl
@[go_sem] theorem ty59 : tyInfo Try.prog 59 = some (true, 2) := by kernel_rfl
@[go_sem] theorem by59 : byteTy Try.prog 59 = false := by kernel_rfl
@[go_sem] theorem cc59 : Program.concrete Try.prog 59 = true := by kernel_rfl
@[go_sem] theorem st59 : strTy Try.prog 59 = false := by kernel_rfl
@[go_sem] theorem zt59 : ztree Try.prog 59 = some (.agg [.nils, (.lit (.int .i64 0))]) := by kernel_rfl
@[go_sem] theorem sp59 : splaces Try.prog 59 = some [(0, 1), (1, 1)] := by kernel_rfl
@[go_sem] theorem fo59_0 : fieldOff Try.prog 59 0 = some 0 := by kernel_rfl
@[go_sem] theorem fo59_1 : fieldOff Try.prog 59 1 = some 1 := by kernel_rfl
@[go_sem] theorem ty60 : tyInfo Try.prog 60 = some (false, 1) := by kernel_rfl
@[go_sem] theorem by60 : byteTy Try.prog 60 = false := by kernel_rfl
@[go_sem] theorem cc60 : Program.concrete Try.prog 60 = true := by kernel_rfl
@[go_sem] theorem st60 : strTy Try.prog 60 = false := by kernel_rfl
@[go_sem] theorem nk60 : nilKind Try.prog 60 = 3 := by kernel_rfl
@[go_sem] theorem zt60 : ztree Try.prog 60 = some (.lit .nilFunc) := by kernel_rfl
@[go_sem] theorem ty61 : tyInfo Try.prog 61 = some (false, 1) := by kernel_rfl
@[go_sem] theorem by61 : byteTy Try.prog 61 = false := by kernel_rfl
@[go_sem] theorem cc61 : Program.concrete Try.prog 61 = true := by kernel_rfl
@[go_sem] theorem st61 : strTy Try.prog 61 = false := by kernel_rfl
@[go_sem] theorem nk61 : nilKind Try.prog 61 = 3 := by kernel_rfl
@[go_sem] theorem zt61 : ztree Try.prog 61 = some (.lit .nilFunc) := by kernel_rfl
@[go_sem] theorem ty62 : tyInfo Try.prog 62 = some (false, 1) := by kernel_rfl
@[go_sem] theorem by62 : byteTy Try.prog 62 = false := by kernel_rfl
@[go_sem] theorem cc62 : Program.concrete Try.prog 62 = true := by kernel_rfl
@[go_sem] theorem st62 : strTy Try.prog 62 = false := by kernel_rfl
@[go_sem] theorem nk62 : nilKind Try.prog 62 = 3 := by kernel_rfl
@[go_sem] theorem zt62 : ztree Try.prog 62 = some (.lit .nilFunc) := by kernel_rfl
@[go_sem] theorem ty63 : tyInfo Try.prog 63 = some (false, 1) := by kernel_rfl
@[go_sem] theorem by63 : byteTy Try.prog 63 = false := by kernel_rfl
@[go_sem] theorem cc63 : Program.concrete Try.prog 63 = true := by kernel_rfl
@[go_sem] theorem st63 : strTy Try.prog 63 = false := by kernel_rfl
@[go_sem] theorem nk63 : nilKind Try.prog 63 = 3 := by kernel_rfl
@[go_sem] theorem zt63 : ztree Try.prog 63 = some (.lit .nilFunc) := by kernel_rfl
@[go_sem] theorem ty64 : tyInfo Try.prog 64 = some (false, 1) := by kernel_rfl
@[go_sem] theorem by64 : byteTy Try.prog 64 = false := by kernel_rfl
@[go_sem] theorem cc64 : Program.concrete Try.prog 64 = true := by kernel_rfl
@[go_sem] theorem st64 : strTy Try.prog 64 = false := by kernel_rfl
@[go_sem] theorem nk64 : nilKind Try.prog 64 = 3 := by kernel_rfl
@[go_sem] theorem zt64 : ztree Try.prog 64 = some (.lit .nilFunc) := by kernel_rfl
@[go_sem] theorem ty70 : tyInfo Try.prog 70 = some (false, 1) := by kernel_rfl
@[go_sem] theorem by70 : byteTy Try.prog 70 = false := by kernel_rfl
@[go_sem] theorem cc70 : Program.concrete Try.prog 70 = true := by kernel_rfl
@[go_sem] theorem st70 : strTy Try.prog 70 = false := by kernel_rfl
@[go_sem] theorem nk70 : nilKind Try.prog 70 = 3 := by kernel_rfl
@[go_sem] theorem zt70 : ztree Try.prog 70 = some (.lit .nilFunc) := by kernel_rfl
@[go_sem] theorem ty71 : tyInfo Try.prog 71 = some (false, 1) := by kernel_rfl
@[go_sem] theorem it71 : intTy Try.prog 71 = some .u32 := by kernel_rfl
@[go_sem] theorem by71 : byteTy Try.prog 71 = false := by kernel_rfl
@[go_sem] theorem cc71 : Program.concrete Try.prog 71 = true := by kernel_rfl
@[go_sem] theorem st71 : strTy Try.prog 71 = false := by kernel_rfl
@[go_sem] theorem zt71 : ztree Try.prog 71 = some (.lit (.int .u32 0)) := by kernel_rfl
@[go_sem] theorem ty75 : tyInfo Try.prog 75 = some (false, 1) := by kernel_rfl
@[go_sem] theorem by75 : byteTy Try.prog 75 = false := by kernel_rfl
@[go_sem] theorem cc75 : Program.concrete Try.prog 75 = true := by kernel_rfl
@[go_sem] theorem st75 : strTy Try.prog 75 = false := by kernel_rfl
@[go_sem] theorem nk75 : nilKind Try.prog 75 = 2 := by kernel_rfl
@[go_sem] theorem zt75 : ztree Try.prog 75 = some (.lit (.pointer none)) := by kernel_rfl
end Go.Proofs.Ytmhehlfocfhpkaa
