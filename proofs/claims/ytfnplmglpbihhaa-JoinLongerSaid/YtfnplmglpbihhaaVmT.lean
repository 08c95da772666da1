/- The seat's table of types, for the abstract machine. Printed by wip/vm/tab.py. -/
import Derived.Test.YtfnplmglpbihhaaProg
import Derived.KernelRfl
import Derived.Test.YtfnplmglpbihhaaVmK
namespace Go.Proofs.Ytfnplmglpbihhaa.Vm
open Go Go.RowKit
set_option maxRecDepth 100000

@[simp] theorem ti1 : (Try.prog.info? 1).isSome = true := by kernel_rfl
@[simp] theorem tc1 : Try.prog.cellsOf 1 = 1 := by kernel_rfl
@[simp] theorem tb1 : Try.prog.bytesOf 1 = 8 := by kernel_rfl
@[simp] theorem ta1 : aggT Try.prog 1 = some false := by kernel_rfl
@[simp] theorem ts1 : strT Try.prog 1 = false := by kernel_rfl
@[simp] theorem to1 : boolT Try.prog 1 = false := by kernel_rfl
@[simp] theorem tz1 : zeroT Try.prog 1 = some [.d (.v .nilFunc)] := by kernel_rfl
@[simp] theorem tl1 : zlenT Try.prog 1 = true := by kernel_rfl
@[simp] theorem ti2 : (Try.prog.info? 2).isSome = true := by kernel_rfl
@[simp] theorem tc2 : Try.prog.cellsOf 2 = 1 := by kernel_rfl
@[simp] theorem tb2 : Try.prog.bytesOf 2 = 8 := by kernel_rfl
@[simp] theorem ta2 : aggT Try.prog 2 = some false := by kernel_rfl
@[simp] theorem ts2 : strT Try.prog 2 = false := by kernel_rfl
@[simp] theorem to2 : boolT Try.prog 2 = false := by kernel_rfl
@[simp] theorem tu2 : Try.prog.underlying 2 = some (.int .i64) := by kernel_rfl
@[simp] theorem tz2 : zeroT Try.prog 2 = some [.d (.v (.int .i64 0))] := by kernel_rfl
@[simp] theorem tl2 : zlenT Try.prog 2 = true := by kernel_rfl
@[simp] theorem ti3 : (Try.prog.info? 3).isSome = true := by kernel_rfl
@[simp] theorem tc3 : Try.prog.cellsOf 3 = 1 := by kernel_rfl
@[simp] theorem tb3 : Try.prog.bytesOf 3 = 8 := by kernel_rfl
@[simp] theorem ta3 : aggT Try.prog 3 = some false := by kernel_rfl
@[simp] theorem ts3 : strT Try.prog 3 = false := by kernel_rfl
@[simp] theorem to3 : boolT Try.prog 3 = false := by kernel_rfl
@[simp] theorem tu3 : Try.prog.underlying 3 = some (.int .i64) := by kernel_rfl
@[simp] theorem tz3 : zeroT Try.prog 3 = some [.d (.v (.int .i64 0))] := by kernel_rfl
@[simp] theorem tl3 : zlenT Try.prog 3 = true := by kernel_rfl
@[simp] theorem ti4 : (Try.prog.info? 4).isSome = true := by kernel_rfl
@[simp] theorem tc4 : Try.prog.cellsOf 4 = 1 := by kernel_rfl
@[simp] theorem tb4 : Try.prog.bytesOf 4 = 1 := by kernel_rfl
@[simp] theorem ta4 : aggT Try.prog 4 = some false := by kernel_rfl
@[simp] theorem ts4 : strT Try.prog 4 = false := by kernel_rfl
@[simp] theorem to4 : boolT Try.prog 4 = true := by kernel_rfl
@[simp] theorem tz4 : zeroT Try.prog 4 = some [.d (.v (.bool false))] := by kernel_rfl
@[simp] theorem tl4 : zlenT Try.prog 4 = true := by kernel_rfl
@[simp] theorem ti5 : (Try.prog.info? 5).isSome = true := by kernel_rfl
@[simp] theorem tc5 : Try.prog.cellsOf 5 = 1 := by kernel_rfl
@[simp] theorem tb5 : Try.prog.bytesOf 5 = 1 := by kernel_rfl
@[simp] theorem ta5 : aggT Try.prog 5 = some false := by kernel_rfl
@[simp] theorem ts5 : strT Try.prog 5 = false := by kernel_rfl
@[simp] theorem to5 : boolT Try.prog 5 = false := by kernel_rfl
@[simp] theorem tu5 : Try.prog.underlying 5 = some (.int .u8) := by kernel_rfl
@[simp] theorem tz5 : zeroT Try.prog 5 = some [.d (.v (.int .u8 0))] := by kernel_rfl
@[simp] theorem tl5 : zlenT Try.prog 5 = true := by kernel_rfl
@[simp] theorem ti6 : (Try.prog.info? 6).isSome = true := by kernel_rfl
@[simp] theorem tc6 : Try.prog.cellsOf 6 = 1 := by kernel_rfl
@[simp] theorem tb6 : Try.prog.bytesOf 6 = 1 := by kernel_rfl
@[simp] theorem ta6 : aggT Try.prog 6 = some false := by kernel_rfl
@[simp] theorem ts6 : strT Try.prog 6 = false := by kernel_rfl
@[simp] theorem to6 : boolT Try.prog 6 = false := by kernel_rfl
@[simp] theorem tu6 : Try.prog.underlying 6 = some (.int .u8) := by kernel_rfl
@[simp] theorem tz6 : zeroT Try.prog 6 = some [.d (.v (.int .u8 0))] := by kernel_rfl
@[simp] theorem tl6 : zlenT Try.prog 6 = true := by kernel_rfl
@[simp] theorem ti7 : (Try.prog.info? 7).isSome = true := by kernel_rfl
@[simp] theorem tc7 : Try.prog.cellsOf 7 = 4 := by kernel_rfl
@[simp] theorem tb7 : Try.prog.bytesOf 7 = 24 := by kernel_rfl
@[simp] theorem ta7 : aggT Try.prog 7 = some true := by kernel_rfl
@[simp] theorem ts7 : strT Try.prog 7 = false := by kernel_rfl
@[simp] theorem to7 : boolT Try.prog 7 = false := by kernel_rfl
@[simp] theorem tst7 : structT Try.prog 7 = true := by kernel_rfl
@[simp] theorem tf7_0 : fldT Try.prog 7 0 = some (0, 2) := by kernel_rfl
@[simp] theorem tf7_1 : fldT Try.prog 7 1 = some (1, 3) := by kernel_rfl
@[simp] theorem tf7_2 : fldT Try.prog 7 2 = some (2, 4) := by kernel_rfl
@[simp] theorem tf7_3 : fldT Try.prog 7 3 = some (3, 6) := by kernel_rfl
@[simp] theorem tz7 : zeroT Try.prog 7 = some [.d (.v (.int .i64 0)), .d (.v (.int .i64 0)), .d (.v (.bool false)), .d (.v (.int .u8 0))] := by kernel_rfl
@[simp] theorem tl7 : zlenT Try.prog 7 = true := by kernel_rfl
@[simp] theorem ti8 : (Try.prog.info? 8).isSome = true := by kernel_rfl
@[simp] theorem tc8 : Try.prog.cellsOf 8 = 4 := by kernel_rfl
@[simp] theorem tb8 : Try.prog.bytesOf 8 = 24 := by kernel_rfl
@[simp] theorem ta8 : aggT Try.prog 8 = some true := by kernel_rfl
@[simp] theorem ts8 : strT Try.prog 8 = false := by kernel_rfl
@[simp] theorem to8 : boolT Try.prog 8 = false := by kernel_rfl
@[simp] theorem tst8 : structT Try.prog 8 = true := by kernel_rfl
@[simp] theorem tf8_0 : fldT Try.prog 8 0 = some (0, 2) := by kernel_rfl
@[simp] theorem tf8_1 : fldT Try.prog 8 1 = some (1, 3) := by kernel_rfl
@[simp] theorem tf8_2 : fldT Try.prog 8 2 = some (2, 4) := by kernel_rfl
@[simp] theorem tf8_3 : fldT Try.prog 8 3 = some (3, 6) := by kernel_rfl
@[simp] theorem tz8 : zeroT Try.prog 8 = some [.d (.v (.int .i64 0)), .d (.v (.int .i64 0)), .d (.v (.bool false)), .d (.v (.int .u8 0))] := by kernel_rfl
@[simp] theorem tl8 : zlenT Try.prog 8 = true := by kernel_rfl
@[simp] theorem ti9 : (Try.prog.info? 9).isSome = true := by kernel_rfl
@[simp] theorem tc9 : Try.prog.cellsOf 9 = 1 := by kernel_rfl
@[simp] theorem tb9 : Try.prog.bytesOf 9 = 16 := by kernel_rfl
@[simp] theorem ta9 : aggT Try.prog 9 = some false := by kernel_rfl
@[simp] theorem ts9 : strT Try.prog 9 = true := by kernel_rfl
@[simp] theorem to9 : boolT Try.prog 9 = false := by kernel_rfl
@[simp] theorem tz9 : zeroT Try.prog 9 = some [.d (.v (.string ⟨#[]⟩))] := by kernel_rfl
@[simp] theorem tl9 : zlenT Try.prog 9 = true := by kernel_rfl
@[simp] theorem ti10 : (Try.prog.info? 10).isSome = true := by kernel_rfl
@[simp] theorem tc10 : Try.prog.cellsOf 10 = 1 := by kernel_rfl
@[simp] theorem tb10 : Try.prog.bytesOf 10 = 16 := by kernel_rfl
@[simp] theorem ta10 : aggT Try.prog 10 = some false := by kernel_rfl
@[simp] theorem ts10 : strT Try.prog 10 = true := by kernel_rfl
@[simp] theorem to10 : boolT Try.prog 10 = false := by kernel_rfl
@[simp] theorem tz10 : zeroT Try.prog 10 = some [.d (.v (.string ⟨#[]⟩))] := by kernel_rfl
@[simp] theorem tl10 : zlenT Try.prog 10 = true := by kernel_rfl
@[simp] theorem ti11 : (Try.prog.info? 11).isSome = true := by kernel_rfl
@[simp] theorem tc11 : Try.prog.cellsOf 11 = 1 := by kernel_rfl
@[simp] theorem tb11 : Try.prog.bytesOf 11 = 16 := by kernel_rfl
@[simp] theorem ta11 : aggT Try.prog 11 = some false := by kernel_rfl
@[simp] theorem ts11 : strT Try.prog 11 = true := by kernel_rfl
@[simp] theorem to11 : boolT Try.prog 11 = false := by kernel_rfl
@[simp] theorem tz11 : zeroT Try.prog 11 = some [.d (.v (.string ⟨#[]⟩))] := by kernel_rfl
@[simp] theorem tl11 : zlenT Try.prog 11 = true := by kernel_rfl
@[simp] theorem ti12 : (Try.prog.info? 12).isSome = true := by kernel_rfl
@[simp] theorem tc12 : Try.prog.cellsOf 12 = 1 := by kernel_rfl
@[simp] theorem tb12 : Try.prog.bytesOf 12 = 8 := by kernel_rfl
@[simp] theorem ta12 : aggT Try.prog 12 = some false := by kernel_rfl
@[simp] theorem ts12 : strT Try.prog 12 = false := by kernel_rfl
@[simp] theorem to12 : boolT Try.prog 12 = false := by kernel_rfl
@[simp] theorem tu12 : Try.prog.underlying 12 = some (.int .u64) := by kernel_rfl
@[simp] theorem tz12 : zeroT Try.prog 12 = some [.d (.v (.int .u64 0))] := by kernel_rfl
@[simp] theorem tl12 : zlenT Try.prog 12 = true := by kernel_rfl
@[simp] theorem ti13 : (Try.prog.info? 13).isSome = true := by kernel_rfl
@[simp] theorem tc13 : Try.prog.cellsOf 13 = 2 := by kernel_rfl
@[simp] theorem tb13 : Try.prog.bytesOf 13 = 24 := by kernel_rfl
@[simp] theorem ta13 : aggT Try.prog 13 = some true := by kernel_rfl
@[simp] theorem ts13 : strT Try.prog 13 = false := by kernel_rfl
@[simp] theorem to13 : boolT Try.prog 13 = false := by kernel_rfl
@[simp] theorem tst13 : structT Try.prog 13 = true := by kernel_rfl
@[simp] theorem tf13_0 : fldT Try.prog 13 0 = some (0, 9) := by kernel_rfl
@[simp] theorem tf13_1 : fldT Try.prog 13 1 = some (1, 12) := by kernel_rfl
@[simp] theorem tz13 : zeroT Try.prog 13 = some [.d (.v (.string ⟨#[]⟩)), .d (.v (.int .u64 0))] := by kernel_rfl
@[simp] theorem tl13 : zlenT Try.prog 13 = true := by kernel_rfl
@[simp] theorem ti14 : (Try.prog.info? 14).isSome = true := by kernel_rfl
@[simp] theorem tc14 : Try.prog.cellsOf 14 = 2 := by kernel_rfl
@[simp] theorem tb14 : Try.prog.bytesOf 14 = 24 := by kernel_rfl
@[simp] theorem ta14 : aggT Try.prog 14 = some true := by kernel_rfl
@[simp] theorem ts14 : strT Try.prog 14 = false := by kernel_rfl
@[simp] theorem to14 : boolT Try.prog 14 = false := by kernel_rfl
@[simp] theorem tst14 : structT Try.prog 14 = true := by kernel_rfl
@[simp] theorem tf14_0 : fldT Try.prog 14 0 = some (0, 9) := by kernel_rfl
@[simp] theorem tf14_1 : fldT Try.prog 14 1 = some (1, 12) := by kernel_rfl
@[simp] theorem tz14 : zeroT Try.prog 14 = some [.d (.v (.string ⟨#[]⟩)), .d (.v (.int .u64 0))] := by kernel_rfl
@[simp] theorem tl14 : zlenT Try.prog 14 = true := by kernel_rfl
@[simp] theorem ti15 : (Try.prog.info? 15).isSome = true := by kernel_rfl
@[simp] theorem tc15 : Try.prog.cellsOf 15 = 1 := by kernel_rfl
@[simp] theorem tb15 : Try.prog.bytesOf 15 = 8 := by kernel_rfl
@[simp] theorem ta15 : aggT Try.prog 15 = some false := by kernel_rfl
@[simp] theorem ts15 : strT Try.prog 15 = false := by kernel_rfl
@[simp] theorem to15 : boolT Try.prog 15 = false := by kernel_rfl
@[simp] theorem tz15 : zeroT Try.prog 15 = some [.d (.v (.pointer none))] := by kernel_rfl
@[simp] theorem tl15 : zlenT Try.prog 15 = true := by kernel_rfl
@[simp] theorem ti16 : (Try.prog.info? 16).isSome = true := by kernel_rfl
@[simp] theorem tc16 : Try.prog.cellsOf 16 = 1 := by kernel_rfl
@[simp] theorem tb16 : Try.prog.bytesOf 16 = 8 := by kernel_rfl
@[simp] theorem ta16 : aggT Try.prog 16 = some false := by kernel_rfl
@[simp] theorem ts16 : strT Try.prog 16 = false := by kernel_rfl
@[simp] theorem to16 : boolT Try.prog 16 = false := by kernel_rfl
@[simp] theorem tz16 : zeroT Try.prog 16 = some [.d (.v (.pointer none))] := by kernel_rfl
@[simp] theorem tl16 : zlenT Try.prog 16 = true := by kernel_rfl
@[simp] theorem ti17 : (Try.prog.info? 17).isSome = true := by kernel_rfl
@[simp] theorem tc17 : Try.prog.cellsOf 17 = 1 := by kernel_rfl
@[simp] theorem tb17 : Try.prog.bytesOf 17 = 8 := by kernel_rfl
@[simp] theorem ta17 : aggT Try.prog 17 = some false := by kernel_rfl
@[simp] theorem ts17 : strT Try.prog 17 = false := by kernel_rfl
@[simp] theorem to17 : boolT Try.prog 17 = false := by kernel_rfl
@[simp] theorem tz17 : zeroT Try.prog 17 = some [.d (.v (.pointer none))] := by kernel_rfl
@[simp] theorem tl17 : zlenT Try.prog 17 = true := by kernel_rfl
@[simp] theorem ti18 : (Try.prog.info? 18).isSome = true := by kernel_rfl
@[simp] theorem tc18 : Try.prog.cellsOf 18 = 1 := by kernel_rfl
@[simp] theorem tb18 : Try.prog.bytesOf 18 = 8 := by kernel_rfl
@[simp] theorem ta18 : aggT Try.prog 18 = some true := by kernel_rfl
@[simp] theorem ts18 : strT Try.prog 18 = false := by kernel_rfl
@[simp] theorem to18 : boolT Try.prog 18 = false := by kernel_rfl
@[simp] theorem tst18 : structT Try.prog 18 = true := by kernel_rfl
@[simp] theorem tf18_0 : fldT Try.prog 18 0 = some (0, 17) := by kernel_rfl
@[simp] theorem tz18 : zeroT Try.prog 18 = some [.d (.v (.pointer none))] := by kernel_rfl
@[simp] theorem tl18 : zlenT Try.prog 18 = true := by kernel_rfl
@[simp] theorem ti19 : (Try.prog.info? 19).isSome = true := by kernel_rfl
@[simp] theorem tc19 : Try.prog.cellsOf 19 = 1 := by kernel_rfl
@[simp] theorem tb19 : Try.prog.bytesOf 19 = 8 := by kernel_rfl
@[simp] theorem ta19 : aggT Try.prog 19 = some true := by kernel_rfl
@[simp] theorem ts19 : strT Try.prog 19 = false := by kernel_rfl
@[simp] theorem to19 : boolT Try.prog 19 = false := by kernel_rfl
@[simp] theorem tst19 : structT Try.prog 19 = true := by kernel_rfl
@[simp] theorem tf19_0 : fldT Try.prog 19 0 = some (0, 17) := by kernel_rfl
@[simp] theorem tz19 : zeroT Try.prog 19 = some [.d (.v (.pointer none))] := by kernel_rfl
@[simp] theorem tl19 : zlenT Try.prog 19 = true := by kernel_rfl
@[simp] theorem ti20 : (Try.prog.info? 20).isSome = true := by kernel_rfl
@[simp] theorem tc20 : Try.prog.cellsOf 20 = 1 := by kernel_rfl
@[simp] theorem tb20 : Try.prog.bytesOf 20 = 16 := by kernel_rfl
@[simp] theorem ta20 : aggT Try.prog 20 = some false := by kernel_rfl
@[simp] theorem ts20 : strT Try.prog 20 = false := by kernel_rfl
@[simp] theorem to20 : boolT Try.prog 20 = false := by kernel_rfl
@[simp] theorem tz20 : zeroT Try.prog 20 = some [.d (.v .nilIface)] := by kernel_rfl
@[simp] theorem tl20 : zlenT Try.prog 20 = true := by kernel_rfl
@[simp] theorem ti21 : (Try.prog.info? 21).isSome = true := by kernel_rfl
@[simp] theorem tc21 : Try.prog.cellsOf 21 = 1 := by kernel_rfl
@[simp] theorem tb21 : Try.prog.bytesOf 21 = 4 := by kernel_rfl
@[simp] theorem ta21 : aggT Try.prog 21 = some false := by kernel_rfl
@[simp] theorem ts21 : strT Try.prog 21 = false := by kernel_rfl
@[simp] theorem to21 : boolT Try.prog 21 = false := by kernel_rfl
@[simp] theorem tu21 : Try.prog.underlying 21 = some (.int .i32) := by kernel_rfl
@[simp] theorem tz21 : zeroT Try.prog 21 = some [.d (.v (.int .i32 0))] := by kernel_rfl
@[simp] theorem tl21 : zlenT Try.prog 21 = true := by kernel_rfl
@[simp] theorem ti22 : (Try.prog.info? 22).isSome = true := by kernel_rfl
@[simp] theorem tc22 : Try.prog.cellsOf 22 = 1 := by kernel_rfl
@[simp] theorem tb22 : Try.prog.bytesOf 22 = 24 := by kernel_rfl
@[simp] theorem ta22 : aggT Try.prog 22 = some false := by kernel_rfl
@[simp] theorem te22 : elT Try.prog 22 = some 25 := by kernel_rfl
@[simp] theorem ts22 : strT Try.prog 22 = false := by kernel_rfl
@[simp] theorem to22 : boolT Try.prog 22 = false := by kernel_rfl
@[simp] theorem tz22 : zeroT Try.prog 22 = some [.nil] := by kernel_rfl
@[simp] theorem tl22 : zlenT Try.prog 22 = true := by kernel_rfl
@[simp] theorem ti23 : (Try.prog.info? 23).isSome = true := by kernel_rfl
@[simp] theorem tc23 : Try.prog.cellsOf 23 = 1 := by kernel_rfl
@[simp] theorem tb23 : Try.prog.bytesOf 23 = 8 := by kernel_rfl
@[simp] theorem ta23 : aggT Try.prog 23 = some false := by kernel_rfl
@[simp] theorem ts23 : strT Try.prog 23 = false := by kernel_rfl
@[simp] theorem to23 : boolT Try.prog 23 = false := by kernel_rfl
@[simp] theorem tz23 : zeroT Try.prog 23 = some [.d (.v .nilFunc)] := by kernel_rfl
@[simp] theorem tl23 : zlenT Try.prog 23 = true := by kernel_rfl
@[simp] theorem ti24 : (Try.prog.info? 24).isSome = true := by kernel_rfl
@[simp] theorem tc24 : Try.prog.cellsOf 24 = 1 := by kernel_rfl
@[simp] theorem tb24 : Try.prog.bytesOf 24 = 8 := by kernel_rfl
@[simp] theorem ta24 : aggT Try.prog 24 = some false := by kernel_rfl
@[simp] theorem ts24 : strT Try.prog 24 = false := by kernel_rfl
@[simp] theorem to24 : boolT Try.prog 24 = false := by kernel_rfl
@[simp] theorem tz24 : zeroT Try.prog 24 = some [.d (.v .nilFunc)] := by kernel_rfl
@[simp] theorem tl24 : zlenT Try.prog 24 = true := by kernel_rfl
@[simp] theorem ti25 : (Try.prog.info? 25).isSome = true := by kernel_rfl
@[simp] theorem tc25 : Try.prog.cellsOf 25 = 1 := by kernel_rfl
@[simp] theorem tb25 : Try.prog.bytesOf 25 = 24 := by kernel_rfl
@[simp] theorem ta25 : aggT Try.prog 25 = some false := by kernel_rfl
@[simp] theorem te25 : elT Try.prog 25 = some 35 := by kernel_rfl
@[simp] theorem ts25 : strT Try.prog 25 = false := by kernel_rfl
@[simp] theorem to25 : boolT Try.prog 25 = false := by kernel_rfl
@[simp] theorem tz25 : zeroT Try.prog 25 = some [.nil] := by kernel_rfl
@[simp] theorem tl25 : zlenT Try.prog 25 = true := by kernel_rfl
@[simp] theorem ti26 : (Try.prog.info? 26).isSome = true := by kernel_rfl
@[simp] theorem tc26 : Try.prog.cellsOf 26 = 1 := by kernel_rfl
@[simp] theorem tb26 : Try.prog.bytesOf 26 = 8 := by kernel_rfl
@[simp] theorem ta26 : aggT Try.prog 26 = some false := by kernel_rfl
@[simp] theorem ts26 : strT Try.prog 26 = false := by kernel_rfl
@[simp] theorem to26 : boolT Try.prog 26 = false := by kernel_rfl
@[simp] theorem tz26 : zeroT Try.prog 26 = some [.d (.v .nilFunc)] := by kernel_rfl
@[simp] theorem tl26 : zlenT Try.prog 26 = true := by kernel_rfl
@[simp] theorem ti27 : (Try.prog.info? 27).isSome = true := by kernel_rfl
@[simp] theorem tc27 : Try.prog.cellsOf 27 = 1 := by kernel_rfl
@[simp] theorem tb27 : Try.prog.bytesOf 27 = 8 := by kernel_rfl
@[simp] theorem ta27 : aggT Try.prog 27 = some false := by kernel_rfl
@[simp] theorem ts27 : strT Try.prog 27 = false := by kernel_rfl
@[simp] theorem to27 : boolT Try.prog 27 = false := by kernel_rfl
@[simp] theorem tu27 : Try.prog.underlying 27 = some (.int .i64) := by kernel_rfl
@[simp] theorem tz27 : zeroT Try.prog 27 = some [.d (.v (.int .i64 0))] := by kernel_rfl
@[simp] theorem tl27 : zlenT Try.prog 27 = true := by kernel_rfl
@[simp] theorem ti29 : (Try.prog.info? 29).isSome = true := by kernel_rfl
@[simp] theorem tc29 : Try.prog.cellsOf 29 = 1 := by kernel_rfl
@[simp] theorem tb29 : Try.prog.bytesOf 29 = 8 := by kernel_rfl
@[simp] theorem ta29 : aggT Try.prog 29 = some false := by kernel_rfl
@[simp] theorem ts29 : strT Try.prog 29 = false := by kernel_rfl
@[simp] theorem to29 : boolT Try.prog 29 = false := by kernel_rfl
@[simp] theorem tz29 : zeroT Try.prog 29 = some [.d (.v .nilFunc)] := by kernel_rfl
@[simp] theorem tl29 : zlenT Try.prog 29 = true := by kernel_rfl
@[simp] theorem ti30 : (Try.prog.info? 30).isSome = true := by kernel_rfl
@[simp] theorem tc30 : Try.prog.cellsOf 30 = 1 := by kernel_rfl
@[simp] theorem tb30 : Try.prog.bytesOf 30 = 8 := by kernel_rfl
@[simp] theorem ta30 : aggT Try.prog 30 = some false := by kernel_rfl
@[simp] theorem ts30 : strT Try.prog 30 = false := by kernel_rfl
@[simp] theorem to30 : boolT Try.prog 30 = false := by kernel_rfl
@[simp] theorem tz30 : zeroT Try.prog 30 = some [.d (.v .nilFunc)] := by kernel_rfl
@[simp] theorem tl30 : zlenT Try.prog 30 = true := by kernel_rfl
@[simp] theorem ti31 : (Try.prog.info? 31).isSome = true := by kernel_rfl
@[simp] theorem tc31 : Try.prog.cellsOf 31 = 1 := by kernel_rfl
@[simp] theorem tb31 : Try.prog.bytesOf 31 = 8 := by kernel_rfl
@[simp] theorem ta31 : aggT Try.prog 31 = some false := by kernel_rfl
@[simp] theorem ts31 : strT Try.prog 31 = false := by kernel_rfl
@[simp] theorem to31 : boolT Try.prog 31 = false := by kernel_rfl
@[simp] theorem tz31 : zeroT Try.prog 31 = some [.d (.v .nilFunc)] := by kernel_rfl
@[simp] theorem tl31 : zlenT Try.prog 31 = true := by kernel_rfl
@[simp] theorem ti32 : (Try.prog.info? 32).isSome = true := by kernel_rfl
@[simp] theorem tc32 : Try.prog.cellsOf 32 = 1 := by kernel_rfl
@[simp] theorem tb32 : Try.prog.bytesOf 32 = 8 := by kernel_rfl
@[simp] theorem ta32 : aggT Try.prog 32 = some false := by kernel_rfl
@[simp] theorem ts32 : strT Try.prog 32 = false := by kernel_rfl
@[simp] theorem to32 : boolT Try.prog 32 = false := by kernel_rfl
@[simp] theorem tz32 : zeroT Try.prog 32 = some [.d (.v .nilFunc)] := by kernel_rfl
@[simp] theorem tl32 : zlenT Try.prog 32 = true := by kernel_rfl
@[simp] theorem ti33 : (Try.prog.info? 33).isSome = true := by kernel_rfl
@[simp] theorem tc33 : Try.prog.cellsOf 33 = 1 := by kernel_rfl
@[simp] theorem tb33 : Try.prog.bytesOf 33 = 24 := by kernel_rfl
@[simp] theorem ta33 : aggT Try.prog 33 = some false := by kernel_rfl
@[simp] theorem te33 : elT Try.prog 33 = some 3 := by kernel_rfl
@[simp] theorem ts33 : strT Try.prog 33 = false := by kernel_rfl
@[simp] theorem to33 : boolT Try.prog 33 = false := by kernel_rfl
@[simp] theorem tz33 : zeroT Try.prog 33 = some [.nil] := by kernel_rfl
@[simp] theorem tl33 : zlenT Try.prog 33 = true := by kernel_rfl
@[simp] theorem ti34 : (Try.prog.info? 34).isSome = true := by kernel_rfl
@[simp] theorem tc34 : Try.prog.cellsOf 34 = 2 := by kernel_rfl
@[simp] theorem tb34 : Try.prog.bytesOf 34 = 32 := by kernel_rfl
@[simp] theorem ta34 : aggT Try.prog 34 = some true := by kernel_rfl
@[simp] theorem ts34 : strT Try.prog 34 = false := by kernel_rfl
@[simp] theorem to34 : boolT Try.prog 34 = false := by kernel_rfl
@[simp] theorem tst34 : structT Try.prog 34 = true := by kernel_rfl
@[simp] theorem tf34_0 : fldT Try.prog 34 0 = some (0, 3) := by kernel_rfl
@[simp] theorem tf34_1 : fldT Try.prog 34 1 = some (1, 33) := by kernel_rfl
@[simp] theorem tz34 : zeroT Try.prog 34 = some [.d (.v (.int .i64 0)), .nil] := by kernel_rfl
@[simp] theorem tl34 : zlenT Try.prog 34 = true := by kernel_rfl
@[simp] theorem ti35 : (Try.prog.info? 35).isSome = true := by kernel_rfl
@[simp] theorem tc35 : Try.prog.cellsOf 35 = 2 := by kernel_rfl
@[simp] theorem tb35 : Try.prog.bytesOf 35 = 32 := by kernel_rfl
@[simp] theorem ta35 : aggT Try.prog 35 = some true := by kernel_rfl
@[simp] theorem ts35 : strT Try.prog 35 = false := by kernel_rfl
@[simp] theorem to35 : boolT Try.prog 35 = false := by kernel_rfl
@[simp] theorem tst35 : structT Try.prog 35 = true := by kernel_rfl
@[simp] theorem tf35_0 : fldT Try.prog 35 0 = some (0, 3) := by kernel_rfl
@[simp] theorem tf35_1 : fldT Try.prog 35 1 = some (1, 33) := by kernel_rfl
@[simp] theorem tz35 : zeroT Try.prog 35 = some [.d (.v (.int .i64 0)), .nil] := by kernel_rfl
@[simp] theorem tl35 : zlenT Try.prog 35 = true := by kernel_rfl
@[simp] theorem ti36 : (Try.prog.info? 36).isSome = true := by kernel_rfl
@[simp] theorem tc36 : Try.prog.cellsOf 36 = 1 := by kernel_rfl
@[simp] theorem tb36 : Try.prog.bytesOf 36 = 8 := by kernel_rfl
@[simp] theorem ta36 : aggT Try.prog 36 = some false := by kernel_rfl
@[simp] theorem ts36 : strT Try.prog 36 = false := by kernel_rfl
@[simp] theorem to36 : boolT Try.prog 36 = false := by kernel_rfl
@[simp] theorem tz36 : zeroT Try.prog 36 = some [.d (.v .nilFunc)] := by kernel_rfl
@[simp] theorem tl36 : zlenT Try.prog 36 = true := by kernel_rfl
@[simp] theorem ti37 : (Try.prog.info? 37).isSome = true := by kernel_rfl
@[simp] theorem tc37 : Try.prog.cellsOf 37 = 1 := by kernel_rfl
@[simp] theorem tb37 : Try.prog.bytesOf 37 = 8 := by kernel_rfl
@[simp] theorem ta37 : aggT Try.prog 37 = some false := by kernel_rfl
@[simp] theorem ts37 : strT Try.prog 37 = false := by kernel_rfl
@[simp] theorem to37 : boolT Try.prog 37 = false := by kernel_rfl
@[simp] theorem tz37 : zeroT Try.prog 37 = some [.d (.v .nilFunc)] := by kernel_rfl
@[simp] theorem tl37 : zlenT Try.prog 37 = true := by kernel_rfl
@[simp] theorem ti39 : (Try.prog.info? 39).isSome = true := by kernel_rfl
@[simp] theorem tc39 : Try.prog.cellsOf 39 = 1 := by kernel_rfl
@[simp] theorem tb39 : Try.prog.bytesOf 39 = 8 := by kernel_rfl
@[simp] theorem ta39 : aggT Try.prog 39 = some false := by kernel_rfl
@[simp] theorem ts39 : strT Try.prog 39 = false := by kernel_rfl
@[simp] theorem to39 : boolT Try.prog 39 = false := by kernel_rfl
@[simp] theorem tz39 : zeroT Try.prog 39 = some [.d (.v .nilFunc)] := by kernel_rfl
@[simp] theorem tl39 : zlenT Try.prog 39 = true := by kernel_rfl
@[simp] theorem ti40 : (Try.prog.info? 40).isSome = true := by kernel_rfl
@[simp] theorem tc40 : Try.prog.cellsOf 40 = 1 := by kernel_rfl
@[simp] theorem tb40 : Try.prog.bytesOf 40 = 8 := by kernel_rfl
@[simp] theorem ta40 : aggT Try.prog 40 = some false := by kernel_rfl
@[simp] theorem ts40 : strT Try.prog 40 = false := by kernel_rfl
@[simp] theorem to40 : boolT Try.prog 40 = false := by kernel_rfl
@[simp] theorem tz40 : zeroT Try.prog 40 = some [.d (.v .nilFunc)] := by kernel_rfl
@[simp] theorem tl40 : zlenT Try.prog 40 = true := by kernel_rfl
@[simp] theorem ti41 : (Try.prog.info? 41).isSome = true := by kernel_rfl
@[simp] theorem tc41 : Try.prog.cellsOf 41 = 1 := by kernel_rfl
@[simp] theorem tb41 : Try.prog.bytesOf 41 = 8 := by kernel_rfl
@[simp] theorem ta41 : aggT Try.prog 41 = some false := by kernel_rfl
@[simp] theorem ts41 : strT Try.prog 41 = false := by kernel_rfl
@[simp] theorem to41 : boolT Try.prog 41 = false := by kernel_rfl
@[simp] theorem tz41 : zeroT Try.prog 41 = some [.d (.v .nilFunc)] := by kernel_rfl
@[simp] theorem tl41 : zlenT Try.prog 41 = true := by kernel_rfl
@[simp] theorem ti42 : (Try.prog.info? 42).isSome = true := by kernel_rfl
@[simp] theorem tc42 : Try.prog.cellsOf 42 = 1 := by kernel_rfl
@[simp] theorem tb42 : Try.prog.bytesOf 42 = 8 := by kernel_rfl
@[simp] theorem ta42 : aggT Try.prog 42 = some false := by kernel_rfl
@[simp] theorem ts42 : strT Try.prog 42 = false := by kernel_rfl
@[simp] theorem to42 : boolT Try.prog 42 = false := by kernel_rfl
@[simp] theorem tz42 : zeroT Try.prog 42 = some [.d (.v .nilFunc)] := by kernel_rfl
@[simp] theorem tl42 : zlenT Try.prog 42 = true := by kernel_rfl
@[simp] theorem ti43 : (Try.prog.info? 43).isSome = true := by kernel_rfl
@[simp] theorem tc43 : Try.prog.cellsOf 43 = 1 := by kernel_rfl
@[simp] theorem tb43 : Try.prog.bytesOf 43 = 8 := by kernel_rfl
@[simp] theorem ta43 : aggT Try.prog 43 = some false := by kernel_rfl
@[simp] theorem ts43 : strT Try.prog 43 = false := by kernel_rfl
@[simp] theorem to43 : boolT Try.prog 43 = false := by kernel_rfl
@[simp] theorem tz43 : zeroT Try.prog 43 = some [.d (.v .nilFunc)] := by kernel_rfl
@[simp] theorem tl43 : zlenT Try.prog 43 = true := by kernel_rfl
@[simp] theorem ti44 : (Try.prog.info? 44).isSome = true := by kernel_rfl
@[simp] theorem tc44 : Try.prog.cellsOf 44 = 1 := by kernel_rfl
@[simp] theorem tb44 : Try.prog.bytesOf 44 = 8 := by kernel_rfl
@[simp] theorem ta44 : aggT Try.prog 44 = some false := by kernel_rfl
@[simp] theorem ts44 : strT Try.prog 44 = false := by kernel_rfl
@[simp] theorem to44 : boolT Try.prog 44 = false := by kernel_rfl
@[simp] theorem tz44 : zeroT Try.prog 44 = some [.d (.v .nilFunc)] := by kernel_rfl
@[simp] theorem tl44 : zlenT Try.prog 44 = true := by kernel_rfl
@[simp] theorem ti45 : (Try.prog.info? 45).isSome = true := by kernel_rfl
@[simp] theorem tc45 : Try.prog.cellsOf 45 = 1 := by kernel_rfl
@[simp] theorem tb45 : Try.prog.bytesOf 45 = 8 := by kernel_rfl
@[simp] theorem ta45 : aggT Try.prog 45 = some false := by kernel_rfl
@[simp] theorem ts45 : strT Try.prog 45 = false := by kernel_rfl
@[simp] theorem to45 : boolT Try.prog 45 = false := by kernel_rfl
@[simp] theorem tz45 : zeroT Try.prog 45 = some [.d (.v .nilFunc)] := by kernel_rfl
@[simp] theorem tl45 : zlenT Try.prog 45 = true := by kernel_rfl
@[simp] theorem ti46 : (Try.prog.info? 46).isSome = true := by kernel_rfl
@[simp] theorem tc46 : Try.prog.cellsOf 46 = 1 := by kernel_rfl
@[simp] theorem tb46 : Try.prog.bytesOf 46 = 8 := by kernel_rfl
@[simp] theorem ta46 : aggT Try.prog 46 = some false := by kernel_rfl
@[simp] theorem ts46 : strT Try.prog 46 = false := by kernel_rfl
@[simp] theorem to46 : boolT Try.prog 46 = false := by kernel_rfl
@[simp] theorem tz46 : zeroT Try.prog 46 = some [.d (.v .nilFunc)] := by kernel_rfl
@[simp] theorem tl46 : zlenT Try.prog 46 = true := by kernel_rfl
@[simp] theorem ti47 : (Try.prog.info? 47).isSome = true := by kernel_rfl
@[simp] theorem tc47 : Try.prog.cellsOf 47 = 1 := by kernel_rfl
@[simp] theorem tb47 : Try.prog.bytesOf 47 = 8 := by kernel_rfl
@[simp] theorem ta47 : aggT Try.prog 47 = some false := by kernel_rfl
@[simp] theorem ts47 : strT Try.prog 47 = false := by kernel_rfl
@[simp] theorem to47 : boolT Try.prog 47 = false := by kernel_rfl
@[simp] theorem tz47 : zeroT Try.prog 47 = some [.d (.v .nilFunc)] := by kernel_rfl
@[simp] theorem tl47 : zlenT Try.prog 47 = true := by kernel_rfl
@[simp] theorem ti48 : (Try.prog.info? 48).isSome = true := by kernel_rfl
@[simp] theorem tc48 : Try.prog.cellsOf 48 = 1 := by kernel_rfl
@[simp] theorem tb48 : Try.prog.bytesOf 48 = 8 := by kernel_rfl
@[simp] theorem ta48 : aggT Try.prog 48 = some false := by kernel_rfl
@[simp] theorem ts48 : strT Try.prog 48 = false := by kernel_rfl
@[simp] theorem to48 : boolT Try.prog 48 = false := by kernel_rfl
@[simp] theorem tz48 : zeroT Try.prog 48 = some [.d (.v .nilFunc)] := by kernel_rfl
@[simp] theorem tl48 : zlenT Try.prog 48 = true := by kernel_rfl
@[simp] theorem ti50 : (Try.prog.info? 50).isSome = true := by kernel_rfl
@[simp] theorem tc50 : Try.prog.cellsOf 50 = 1 := by kernel_rfl
@[simp] theorem tb50 : Try.prog.bytesOf 50 = 8 := by kernel_rfl
@[simp] theorem ta50 : aggT Try.prog 50 = some false := by kernel_rfl
@[simp] theorem ts50 : strT Try.prog 50 = false := by kernel_rfl
@[simp] theorem to50 : boolT Try.prog 50 = false := by kernel_rfl
@[simp] theorem tz50 : zeroT Try.prog 50 = some [.d (.v .nilFunc)] := by kernel_rfl
@[simp] theorem tl50 : zlenT Try.prog 50 = true := by kernel_rfl
@[simp] theorem ti51 : (Try.prog.info? 51).isSome = true := by kernel_rfl
@[simp] theorem tc51 : Try.prog.cellsOf 51 = 1 := by kernel_rfl
@[simp] theorem tb51 : Try.prog.bytesOf 51 = 8 := by kernel_rfl
@[simp] theorem ta51 : aggT Try.prog 51 = some false := by kernel_rfl
@[simp] theorem ts51 : strT Try.prog 51 = false := by kernel_rfl
@[simp] theorem to51 : boolT Try.prog 51 = false := by kernel_rfl
@[simp] theorem tz51 : zeroT Try.prog 51 = some [.d (.v .nilFunc)] := by kernel_rfl
@[simp] theorem tl51 : zlenT Try.prog 51 = true := by kernel_rfl
@[simp] theorem ti52 : (Try.prog.info? 52).isSome = true := by kernel_rfl
@[simp] theorem tc52 : Try.prog.cellsOf 52 = 1 := by kernel_rfl
@[simp] theorem tb52 : Try.prog.bytesOf 52 = 8 := by kernel_rfl
@[simp] theorem ta52 : aggT Try.prog 52 = some false := by kernel_rfl
@[simp] theorem ts52 : strT Try.prog 52 = false := by kernel_rfl
@[simp] theorem to52 : boolT Try.prog 52 = false := by kernel_rfl
@[simp] theorem tz52 : zeroT Try.prog 52 = some [.d (.v .nilFunc)] := by kernel_rfl
@[simp] theorem tl52 : zlenT Try.prog 52 = true := by kernel_rfl
@[simp] theorem ti53 : (Try.prog.info? 53).isSome = true := by kernel_rfl
@[simp] theorem tc53 : Try.prog.cellsOf 53 = 1 := by kernel_rfl
@[simp] theorem tb53 : Try.prog.bytesOf 53 = 8 := by kernel_rfl
@[simp] theorem ta53 : aggT Try.prog 53 = some false := by kernel_rfl
@[simp] theorem ts53 : strT Try.prog 53 = false := by kernel_rfl
@[simp] theorem to53 : boolT Try.prog 53 = false := by kernel_rfl
@[simp] theorem tu53 : Try.prog.underlying 53 = some (.int .u64) := by kernel_rfl
@[simp] theorem tz53 : zeroT Try.prog 53 = some [.d (.v (.int .u64 0))] := by kernel_rfl
@[simp] theorem tl53 : zlenT Try.prog 53 = true := by kernel_rfl
@[simp] theorem ti54 : (Try.prog.info? 54).isSome = true := by kernel_rfl
@[simp] theorem tc54 : Try.prog.cellsOf 54 = 1 := by kernel_rfl
@[simp] theorem tb54 : Try.prog.bytesOf 54 = 8 := by kernel_rfl
@[simp] theorem ta54 : aggT Try.prog 54 = some false := by kernel_rfl
@[simp] theorem ts54 : strT Try.prog 54 = false := by kernel_rfl
@[simp] theorem to54 : boolT Try.prog 54 = false := by kernel_rfl
@[simp] theorem tz54 : zeroT Try.prog 54 = some [.d (.v .nilFunc)] := by kernel_rfl
@[simp] theorem tl54 : zlenT Try.prog 54 = true := by kernel_rfl
@[simp] theorem ti55 : (Try.prog.info? 55).isSome = true := by kernel_rfl
@[simp] theorem tc55 : Try.prog.cellsOf 55 = 1 := by kernel_rfl
@[simp] theorem tb55 : Try.prog.bytesOf 55 = 8 := by kernel_rfl
@[simp] theorem ta55 : aggT Try.prog 55 = some false := by kernel_rfl
@[simp] theorem ts55 : strT Try.prog 55 = false := by kernel_rfl
@[simp] theorem to55 : boolT Try.prog 55 = false := by kernel_rfl
@[simp] theorem tz55 : zeroT Try.prog 55 = some [.d (.v .nilFunc)] := by kernel_rfl
@[simp] theorem tl55 : zlenT Try.prog 55 = true := by kernel_rfl
@[simp] theorem ti56 : (Try.prog.info? 56).isSome = true := by kernel_rfl
@[simp] theorem tc56 : Try.prog.cellsOf 56 = 1 := by kernel_rfl
@[simp] theorem tb56 : Try.prog.bytesOf 56 = 8 := by kernel_rfl
@[simp] theorem ta56 : aggT Try.prog 56 = some false := by kernel_rfl
@[simp] theorem ts56 : strT Try.prog 56 = false := by kernel_rfl
@[simp] theorem to56 : boolT Try.prog 56 = false := by kernel_rfl
@[simp] theorem tz56 : zeroT Try.prog 56 = some [.d (.v .nilFunc)] := by kernel_rfl
@[simp] theorem tl56 : zlenT Try.prog 56 = true := by kernel_rfl
@[simp] theorem ti57 : (Try.prog.info? 57).isSome = true := by kernel_rfl
@[simp] theorem tc57 : Try.prog.cellsOf 57 = 4 := by kernel_rfl
@[simp] theorem tb57 : Try.prog.bytesOf 57 = 40 := by kernel_rfl
@[simp] theorem ta57 : aggT Try.prog 57 = some true := by kernel_rfl
@[simp] theorem ts57 : strT Try.prog 57 = false := by kernel_rfl
@[simp] theorem to57 : boolT Try.prog 57 = false := by kernel_rfl
@[simp] theorem tst57 : structT Try.prog 57 = true := by kernel_rfl
@[simp] theorem tf57_0 : fldT Try.prog 57 0 = some (0, 17) := by kernel_rfl
@[simp] theorem tf57_1 : fldT Try.prog 57 1 = some (1, 17) := by kernel_rfl
@[simp] theorem tf57_2 : fldT Try.prog 57 2 = some (2, 17) := by kernel_rfl
@[simp] theorem tf57_3 : fldT Try.prog 57 3 = some (3, 9) := by kernel_rfl
@[simp] theorem tz57 : zeroT Try.prog 57 = some [.d (.v (.pointer none)), .d (.v (.pointer none)), .d (.v (.pointer none)), .d (.v (.string ⟨#[]⟩))] := by kernel_rfl
@[simp] theorem tl57 : zlenT Try.prog 57 = true := by kernel_rfl
@[simp] theorem ti58 : (Try.prog.info? 58).isSome = true := by kernel_rfl
@[simp] theorem tc58 : Try.prog.cellsOf 58 = 4 := by kernel_rfl
@[simp] theorem tb58 : Try.prog.bytesOf 58 = 40 := by kernel_rfl
@[simp] theorem ta58 : aggT Try.prog 58 = some true := by kernel_rfl
@[simp] theorem ts58 : strT Try.prog 58 = false := by kernel_rfl
@[simp] theorem to58 : boolT Try.prog 58 = false := by kernel_rfl
@[simp] theorem tst58 : structT Try.prog 58 = true := by kernel_rfl
@[simp] theorem tf58_0 : fldT Try.prog 58 0 = some (0, 17) := by kernel_rfl
@[simp] theorem tf58_1 : fldT Try.prog 58 1 = some (1, 17) := by kernel_rfl
@[simp] theorem tf58_2 : fldT Try.prog 58 2 = some (2, 17) := by kernel_rfl
@[simp] theorem tf58_3 : fldT Try.prog 58 3 = some (3, 9) := by kernel_rfl
@[simp] theorem tz58 : zeroT Try.prog 58 = some [.d (.v (.pointer none)), .d (.v (.pointer none)), .d (.v (.pointer none)), .d (.v (.string ⟨#[]⟩))] := by kernel_rfl
@[simp] theorem tl58 : zlenT Try.prog 58 = true := by kernel_rfl
@[simp] theorem ti59 : (Try.prog.info? 59).isSome = true := by kernel_rfl
@[simp] theorem tc59 : Try.prog.cellsOf 59 = 0 := by kernel_rfl
@[simp] theorem tb59 : Try.prog.bytesOf 59 = 0 := by kernel_rfl
@[simp] theorem ta59 : aggT Try.prog 59 = some true := by kernel_rfl
@[simp] theorem ts59 : strT Try.prog 59 = false := by kernel_rfl
@[simp] theorem to59 : boolT Try.prog 59 = false := by kernel_rfl
@[simp] theorem tz59 : zeroT Try.prog 59 = some [] := by kernel_rfl
@[simp] theorem tl59 : zlenT Try.prog 59 = true := by kernel_rfl
@[simp] theorem ti60 : (Try.prog.info? 60).isSome = true := by kernel_rfl
@[simp] theorem tc60 : Try.prog.cellsOf 60 = 0 := by kernel_rfl
@[simp] theorem tb60 : Try.prog.bytesOf 60 = 0 := by kernel_rfl
@[simp] theorem ta60 : aggT Try.prog 60 = some true := by kernel_rfl
@[simp] theorem ts60 : strT Try.prog 60 = false := by kernel_rfl
@[simp] theorem to60 : boolT Try.prog 60 = false := by kernel_rfl
@[simp] theorem tst60 : structT Try.prog 60 = true := by kernel_rfl
@[simp] theorem tz60 : zeroT Try.prog 60 = some [] := by kernel_rfl
@[simp] theorem tl60 : zlenT Try.prog 60 = true := by kernel_rfl
@[simp] theorem ti61 : (Try.prog.info? 61).isSome = true := by kernel_rfl
@[simp] theorem tc61 : Try.prog.cellsOf 61 = 0 := by kernel_rfl
@[simp] theorem tb61 : Try.prog.bytesOf 61 = 0 := by kernel_rfl
@[simp] theorem ta61 : aggT Try.prog 61 = some true := by kernel_rfl
@[simp] theorem ts61 : strT Try.prog 61 = false := by kernel_rfl
@[simp] theorem to61 : boolT Try.prog 61 = false := by kernel_rfl
@[simp] theorem tst61 : structT Try.prog 61 = true := by kernel_rfl
@[simp] theorem tz61 : zeroT Try.prog 61 = some [] := by kernel_rfl
@[simp] theorem tl61 : zlenT Try.prog 61 = true := by kernel_rfl
@[simp] theorem ti62 : (Try.prog.info? 62).isSome = true := by kernel_rfl
@[simp] theorem tc62 : Try.prog.cellsOf 62 = 1 := by kernel_rfl
@[simp] theorem tb62 : Try.prog.bytesOf 62 = 8 := by kernel_rfl
@[simp] theorem ta62 : aggT Try.prog 62 = some false := by kernel_rfl
@[simp] theorem ts62 : strT Try.prog 62 = false := by kernel_rfl
@[simp] theorem to62 : boolT Try.prog 62 = false := by kernel_rfl
@[simp] theorem tz62 : zeroT Try.prog 62 = some [.d (.v .nilFunc)] := by kernel_rfl
@[simp] theorem tl62 : zlenT Try.prog 62 = true := by kernel_rfl
@[simp] theorem ti63 : (Try.prog.info? 63).isSome = true := by kernel_rfl
@[simp] theorem tc63 : Try.prog.cellsOf 63 = 1 := by kernel_rfl
@[simp] theorem tb63 : Try.prog.bytesOf 63 = 4 := by kernel_rfl
@[simp] theorem ta63 : aggT Try.prog 63 = some false := by kernel_rfl
@[simp] theorem ts63 : strT Try.prog 63 = false := by kernel_rfl
@[simp] theorem to63 : boolT Try.prog 63 = false := by kernel_rfl
@[simp] theorem tu63 : Try.prog.underlying 63 = some (.int .u32) := by kernel_rfl
@[simp] theorem tz63 : zeroT Try.prog 63 = some [.d (.v (.int .u32 0))] := by kernel_rfl
@[simp] theorem tl63 : zlenT Try.prog 63 = true := by kernel_rfl
@[simp] theorem ti64 : (Try.prog.info? 64).isSome = true := by kernel_rfl
@[simp] theorem tc64 : Try.prog.cellsOf 64 = 1 := by kernel_rfl
@[simp] theorem tb64 : Try.prog.bytesOf 64 = 1 := by kernel_rfl
@[simp] theorem ta64 : aggT Try.prog 64 = some false := by kernel_rfl
@[simp] theorem ts64 : strT Try.prog 64 = false := by kernel_rfl
@[simp] theorem to64 : boolT Try.prog 64 = false := by kernel_rfl
@[simp] theorem tu64 : Try.prog.underlying 64 = some (.int .u8) := by kernel_rfl
@[simp] theorem tz64 : zeroT Try.prog 64 = some [.d (.v (.int .u8 0))] := by kernel_rfl
@[simp] theorem tl64 : zlenT Try.prog 64 = true := by kernel_rfl
@[simp] theorem ti65 : (Try.prog.info? 65).isSome = true := by kernel_rfl
@[simp] theorem tc65 : Try.prog.cellsOf 65 = 1 := by kernel_rfl
@[simp] theorem tb65 : Try.prog.bytesOf 65 = 1 := by kernel_rfl
@[simp] theorem ta65 : aggT Try.prog 65 = some false := by kernel_rfl
@[simp] theorem ts65 : strT Try.prog 65 = false := by kernel_rfl
@[simp] theorem to65 : boolT Try.prog 65 = false := by kernel_rfl
@[simp] theorem tu65 : Try.prog.underlying 65 = some (.int .u8) := by kernel_rfl
@[simp] theorem tz65 : zeroT Try.prog 65 = some [.d (.v (.int .u8 0))] := by kernel_rfl
@[simp] theorem tl65 : zlenT Try.prog 65 = true := by kernel_rfl
@[simp] theorem ti66 : (Try.prog.info? 66).isSome = true := by kernel_rfl
@[simp] theorem tc66 : Try.prog.cellsOf 66 = 1 := by kernel_rfl
@[simp] theorem tb66 : Try.prog.bytesOf 66 = 8 := by kernel_rfl
@[simp] theorem ta66 : aggT Try.prog 66 = some false := by kernel_rfl
@[simp] theorem ts66 : strT Try.prog 66 = false := by kernel_rfl
@[simp] theorem to66 : boolT Try.prog 66 = false := by kernel_rfl
@[simp] theorem tz66 : zeroT Try.prog 66 = some [.d (.v .nilFunc)] := by kernel_rfl
@[simp] theorem tl66 : zlenT Try.prog 66 = true := by kernel_rfl
@[simp] theorem ti67 : (Try.prog.info? 67).isSome = true := by kernel_rfl
@[simp] theorem tc67 : Try.prog.cellsOf 67 = 1 := by kernel_rfl
@[simp] theorem tb67 : Try.prog.bytesOf 67 = 8 := by kernel_rfl
@[simp] theorem ta67 : aggT Try.prog 67 = some false := by kernel_rfl
@[simp] theorem ts67 : strT Try.prog 67 = false := by kernel_rfl
@[simp] theorem to67 : boolT Try.prog 67 = false := by kernel_rfl
@[simp] theorem tz67 : zeroT Try.prog 67 = some [.d (.v (.pointer none))] := by kernel_rfl
@[simp] theorem tl67 : zlenT Try.prog 67 = true := by kernel_rfl
@[simp] theorem ti68 : (Try.prog.info? 68).isSome = true := by kernel_rfl
@[simp] theorem tc68 : Try.prog.cellsOf 68 = 1 := by kernel_rfl
@[simp] theorem tb68 : Try.prog.bytesOf 68 = 4 := by kernel_rfl
@[simp] theorem ta68 : aggT Try.prog 68 = some false := by kernel_rfl
@[simp] theorem ts68 : strT Try.prog 68 = false := by kernel_rfl
@[simp] theorem to68 : boolT Try.prog 68 = false := by kernel_rfl
@[simp] theorem tu68 : Try.prog.underlying 68 = some (.int .i32) := by kernel_rfl
@[simp] theorem tz68 : zeroT Try.prog 68 = some [.d (.v (.int .i32 0))] := by kernel_rfl
@[simp] theorem tl68 : zlenT Try.prog 68 = true := by kernel_rfl
@[simp] theorem ti69 : (Try.prog.info? 69).isSome = true := by kernel_rfl
@[simp] theorem tc69 : Try.prog.cellsOf 69 = 1 := by kernel_rfl
@[simp] theorem tb69 : Try.prog.bytesOf 69 = 4 := by kernel_rfl
@[simp] theorem ta69 : aggT Try.prog 69 = some false := by kernel_rfl
@[simp] theorem ts69 : strT Try.prog 69 = false := by kernel_rfl
@[simp] theorem to69 : boolT Try.prog 69 = false := by kernel_rfl
@[simp] theorem tu69 : Try.prog.underlying 69 = some (.int .i32) := by kernel_rfl
@[simp] theorem tz69 : zeroT Try.prog 69 = some [.d (.v (.int .i32 0))] := by kernel_rfl
@[simp] theorem tl69 : zlenT Try.prog 69 = true := by kernel_rfl
@[simp] theorem ti70 : (Try.prog.info? 70).isSome = true := by kernel_rfl
@[simp] theorem tc70 : Try.prog.cellsOf 70 = 11 := by kernel_rfl
@[simp] theorem tb70 : Try.prog.bytesOf 70 = 48 := by kernel_rfl
@[simp] theorem ta70 : aggT Try.prog 70 = some true := by kernel_rfl
@[simp] theorem ts70 : strT Try.prog 70 = false := by kernel_rfl
@[simp] theorem to70 : boolT Try.prog 70 = false := by kernel_rfl
@[simp] theorem tst70 : structT Try.prog 70 = true := by kernel_rfl
@[simp] theorem tf70_0 : fldT Try.prog 70 0 = some (0, 12) := by kernel_rfl
@[simp] theorem tf70_1 : fldT Try.prog 70 1 = some (1, 12) := by kernel_rfl
@[simp] theorem tf70_2 : fldT Try.prog 70 2 = some (2, 63) := by kernel_rfl
@[simp] theorem tf70_3 : fldT Try.prog 70 3 = some (3, 64) := by kernel_rfl
@[simp] theorem tf70_4 : fldT Try.prog 70 4 = some (4, 5) := by kernel_rfl
@[simp] theorem tf70_5 : fldT Try.prog 70 5 = some (5, 5) := by kernel_rfl
@[simp] theorem tf70_6 : fldT Try.prog 70 6 = some (6, 65) := by kernel_rfl
@[simp] theorem tf70_7 : fldT Try.prog 70 7 = some (7, 66) := by kernel_rfl
@[simp] theorem tf70_8 : fldT Try.prog 70 8 = some (8, 67) := by kernel_rfl
@[simp] theorem tf70_9 : fldT Try.prog 70 9 = some (9, 68) := by kernel_rfl
@[simp] theorem tf70_10 : fldT Try.prog 70 10 = some (10, 69) := by kernel_rfl
@[simp] theorem tz70 : zeroT Try.prog 70 = some [.d (.v (.int .u64 0)), .d (.v (.int .u64 0)), .d (.v (.int .u32 0)), .d (.v (.int .u8 0)), .d (.v (.int .u8 0)), .d (.v (.int .u8 0)), .d (.v (.int .u8 0)), .d (.v .nilFunc), .d (.v (.pointer none)), .d (.v (.int .i32 0)), .d (.v (.int .i32 0))] := by kernel_rfl
@[simp] theorem tl70 : zlenT Try.prog 70 = true := by kernel_rfl
@[simp] theorem ti71 : (Try.prog.info? 71).isSome = true := by kernel_rfl
@[simp] theorem tc71 : Try.prog.cellsOf 71 = 11 := by kernel_rfl
@[simp] theorem tb71 : Try.prog.bytesOf 71 = 48 := by kernel_rfl
@[simp] theorem ta71 : aggT Try.prog 71 = some true := by kernel_rfl
@[simp] theorem ts71 : strT Try.prog 71 = false := by kernel_rfl
@[simp] theorem to71 : boolT Try.prog 71 = false := by kernel_rfl
@[simp] theorem tst71 : structT Try.prog 71 = true := by kernel_rfl
@[simp] theorem tf71_0 : fldT Try.prog 71 0 = some (0, 12) := by kernel_rfl
@[simp] theorem tf71_1 : fldT Try.prog 71 1 = some (1, 12) := by kernel_rfl
@[simp] theorem tf71_2 : fldT Try.prog 71 2 = some (2, 63) := by kernel_rfl
@[simp] theorem tf71_3 : fldT Try.prog 71 3 = some (3, 64) := by kernel_rfl
@[simp] theorem tf71_4 : fldT Try.prog 71 4 = some (4, 5) := by kernel_rfl
@[simp] theorem tf71_5 : fldT Try.prog 71 5 = some (5, 5) := by kernel_rfl
@[simp] theorem tf71_6 : fldT Try.prog 71 6 = some (6, 65) := by kernel_rfl
@[simp] theorem tf71_7 : fldT Try.prog 71 7 = some (7, 66) := by kernel_rfl
@[simp] theorem tf71_8 : fldT Try.prog 71 8 = some (8, 67) := by kernel_rfl
@[simp] theorem tf71_9 : fldT Try.prog 71 9 = some (9, 68) := by kernel_rfl
@[simp] theorem tf71_10 : fldT Try.prog 71 10 = some (10, 69) := by kernel_rfl
@[simp] theorem tz71 : zeroT Try.prog 71 = some [.d (.v (.int .u64 0)), .d (.v (.int .u64 0)), .d (.v (.int .u32 0)), .d (.v (.int .u8 0)), .d (.v (.int .u8 0)), .d (.v (.int .u8 0)), .d (.v (.int .u8 0)), .d (.v .nilFunc), .d (.v (.pointer none)), .d (.v (.int .i32 0)), .d (.v (.int .i32 0))] := by kernel_rfl
@[simp] theorem tl71 : zlenT Try.prog 71 = true := by kernel_rfl
@[simp] theorem ti72 : (Try.prog.info? 72).isSome = true := by kernel_rfl
@[simp] theorem tc72 : Try.prog.cellsOf 72 = 1 := by kernel_rfl
@[simp] theorem tb72 : Try.prog.bytesOf 72 = 8 := by kernel_rfl
@[simp] theorem ta72 : aggT Try.prog 72 = some false := by kernel_rfl
@[simp] theorem ts72 : strT Try.prog 72 = false := by kernel_rfl
@[simp] theorem to72 : boolT Try.prog 72 = false := by kernel_rfl
@[simp] theorem tz72 : zeroT Try.prog 72 = some [.d (.v (.pointer none))] := by kernel_rfl
@[simp] theorem tl72 : zlenT Try.prog 72 = true := by kernel_rfl
theorem mixed : Try.prog.follows .mixedOrders = true := by kernel_rfl

theorem cp3 : callP Try.prog 3 = true := by kernel_rfl
theorem cp4 : callP Try.prog 4 = true := by kernel_rfl
theorem cp5 : callP Try.prog 5 = true := by kernel_rfl
theorem cp6 : callP Try.prog 6 = true := by kernel_rfl
theorem cp7 : callP Try.prog 7 = true := by kernel_rfl
theorem cp8 : callP Try.prog 8 = true := by kernel_rfl
theorem cp9 : callP Try.prog 9 = true := by kernel_rfl
theorem cp10 : callP Try.prog 10 = true := by kernel_rfl
theorem cp11 : callP Try.prog 11 = true := by kernel_rfl
theorem cp12 : callP Try.prog 12 = true := by kernel_rfl
theorem cp13 : callP Try.prog 13 = true := by kernel_rfl
theorem cp14 : callP Try.prog 14 = true := by kernel_rfl
theorem cp15 : callP Try.prog 15 = true := by kernel_rfl
theorem cp16 : callP Try.prog 16 = true := by kernel_rfl
theorem cp17 : callP Try.prog 17 = true := by kernel_rfl
theorem cp18 : callP Try.prog 18 = true := by kernel_rfl
theorem cp19 : callP Try.prog 19 = true := by kernel_rfl
theorem cp20 : callP Try.prog 20 = true := by kernel_rfl
theorem cp21 : callP Try.prog 21 = true := by kernel_rfl
theorem cp22 : callP Try.prog 22 = true := by kernel_rfl
theorem cp23 : callP Try.prog 23 = true := by kernel_rfl
theorem cp24 : callP Try.prog 24 = true := by kernel_rfl
theorem cp25 : callP Try.prog 25 = true := by kernel_rfl
theorem cp26 : callP Try.prog 26 = true := by kernel_rfl
theorem cp27 : callP Try.prog 27 = true := by kernel_rfl
theorem cp28 : callP Try.prog 28 = true := by kernel_rfl
theorem cp29 : callP Try.prog 29 = true := by kernel_rfl
theorem cp30 : callP Try.prog 30 = true := by kernel_rfl
theorem cp31 : callP Try.prog 31 = true := by kernel_rfl
end Go.Proofs.Ytfnplmglpbihhaa.Vm
