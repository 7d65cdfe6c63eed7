/-
  Facts on the seat's types and functions, by program.
-/
import Derived.Test.YtoeglkkmjmhmiaaDoorProg
import Derived.Test.YtoeglkkmjmhmiaaDoorSlMore
import Derived.KernelRfl
namespace Go.Proofs.YtoeglkkmjmhmiaaDoor
open Go.Sl
theorem ag63 : Sl.aggT Tryd.prog 63 = true := by kernel_rfl
theorem bt43 : Sl.structT Tryd.prog 43 = some [(0, 1), (1, 1), (2, 1)] := by kernel_rfl
theorem bt48 : Sl.structT Tryd.prog 48 = some [(0, 1), (1, 1)] := by kernel_rfl
theorem bt52 : Sl.structT Tryd.prog 52 = some [(0, 1), (1, 1)] := by kernel_rfl
theorem bt54 : Sl.structT Tryd.prog 54 = some [(0, 1), (1, 1), (2, 1)] := by kernel_rfl
theorem bt61 : Sl.structT Tryd.prog 61 = some [(0, 1), (1, 1), (2, 1)] := by kernel_rfl
theorem bt63 : Sl.structT Tryd.prog 63 = some [(0, 1), (1, 1), (2, 1), (3, 1)] := by kernel_rfl
theorem ct10 : Sl.callT Tryd.prog 10 = true := by kernel_rfl
theorem ct11 : Sl.callT Tryd.prog 11 = true := by kernel_rfl
theorem ct12 : Sl.callT Tryd.prog 12 = true := by kernel_rfl
theorem ct13 : Sl.callT Tryd.prog 13 = true := by kernel_rfl
theorem ct14 : Sl.callT Tryd.prog 14 = true := by kernel_rfl
theorem ct15 : Sl.callT Tryd.prog 15 = true := by kernel_rfl
theorem ct16 : Sl.callT Tryd.prog 16 = true := by kernel_rfl
theorem ct17 : Sl.callT Tryd.prog 17 = true := by kernel_rfl
theorem ct18 : Sl.callT Tryd.prog 18 = true := by kernel_rfl
theorem ct19 : Sl.callT Tryd.prog 19 = true := by kernel_rfl
theorem ct20 : Sl.callT Tryd.prog 20 = true := by kernel_rfl
theorem ct21 : Sl.callT Tryd.prog 21 = true := by kernel_rfl
theorem ct22 : Sl.callT Tryd.prog 22 = true := by kernel_rfl
theorem ct23 : Sl.callT Tryd.prog 23 = true := by kernel_rfl
theorem ct24 : Sl.callT Tryd.prog 24 = true := by kernel_rfl
theorem ct25 : Sl.callT Tryd.prog 25 = true := by kernel_rfl
theorem ct26 : Sl.callT Tryd.prog 26 = true := by kernel_rfl
theorem ct27 : Sl.callT Tryd.prog 27 = true := by kernel_rfl
theorem ct28 : Sl.callT Tryd.prog 28 = true := by kernel_rfl
theorem ct29 : Sl.callT Tryd.prog 29 = true := by kernel_rfl
theorem ct30 : Sl.callT Tryd.prog 30 = true := by kernel_rfl
theorem ct31 : Sl.callT Tryd.prog 31 = true := by kernel_rfl
theorem ct32 : Sl.callT Tryd.prog 32 = true := by kernel_rfl
theorem ct33 : Sl.callT Tryd.prog 33 = true := by kernel_rfl
theorem ct34 : Sl.callT Tryd.prog 34 = true := by kernel_rfl
theorem ct35 : Sl.callT Tryd.prog 35 = true := by kernel_rfl
theorem ct36 : Sl.callT Tryd.prog 36 = true := by kernel_rfl
theorem ct37 : Sl.callT Tryd.prog 37 = true := by kernel_rfl
theorem ct38 : Sl.callT Tryd.prog 38 = true := by kernel_rfl
theorem ct39 : Sl.callT Tryd.prog 39 = true := by kernel_rfl
theorem ct40 : Sl.callT Tryd.prog 40 = true := by kernel_rfl
theorem ct41 : Sl.callT Tryd.prog 41 = true := by kernel_rfl
theorem ct42 : Sl.callT Tryd.prog 42 = true := by kernel_rfl
theorem ct43 : Sl.callT Tryd.prog 43 = true := by kernel_rfl
theorem ct44 : Sl.callT Tryd.prog 44 = true := by kernel_rfl
theorem ct45 : Sl.callT Tryd.prog 45 = true := by kernel_rfl
theorem ct46 : Sl.callT Tryd.prog 46 = true := by kernel_rfl
theorem ct47 : Sl.callT Tryd.prog 47 = true := by kernel_rfl
theorem ct48 : Sl.callT Tryd.prog 48 = true := by kernel_rfl
theorem ct49 : Sl.callT Tryd.prog 49 = true := by kernel_rfl
theorem ct50 : Sl.callT Tryd.prog 50 = true := by kernel_rfl
theorem ct51 : Sl.callT Tryd.prog 51 = true := by kernel_rfl
theorem ct52 : Sl.callT Tryd.prog 52 = true := by kernel_rfl
theorem ct53 : Sl.callT Tryd.prog 53 = true := by kernel_rfl
theorem ct54 : Sl.callT Tryd.prog 54 = true := by kernel_rfl
theorem ct55 : Sl.callT Tryd.prog 55 = true := by kernel_rfl
theorem ct56 : Sl.callT Tryd.prog 56 = true := by kernel_rfl
theorem ct57 : Sl.callT Tryd.prog 57 = true := by kernel_rfl
theorem ct58 : Sl.callT Tryd.prog 58 = true := by kernel_rfl
theorem ct59 : Sl.callT Tryd.prog 59 = true := by kernel_rfl
theorem ct60 : Sl.callT Tryd.prog 60 = true := by kernel_rfl
theorem ct61 : Sl.callT Tryd.prog 61 = true := by kernel_rfl
theorem ct62 : Sl.callT Tryd.prog 62 = true := by kernel_rfl
theorem fl43f0 : Sl.fieldT Tryd.prog 43 0 0 = true := by kernel_rfl
theorem fl43f1 : Sl.fieldT Tryd.prog 43 1 1 = true := by kernel_rfl
theorem fl43f2 : Sl.fieldT Tryd.prog 43 2 2 = true := by kernel_rfl
theorem fl48f0 : Sl.fieldT Tryd.prog 48 0 0 = true := by kernel_rfl
theorem fl48f1 : Sl.fieldT Tryd.prog 48 1 1 = true := by kernel_rfl
theorem fl52f0 : Sl.fieldT Tryd.prog 52 0 0 = true := by kernel_rfl
theorem fl52f1 : Sl.fieldT Tryd.prog 52 1 1 = true := by kernel_rfl
theorem fl54f0 : Sl.fieldT Tryd.prog 54 0 0 = true := by kernel_rfl
theorem fl54f1 : Sl.fieldT Tryd.prog 54 1 1 = true := by kernel_rfl
theorem fl54f2 : Sl.fieldT Tryd.prog 54 2 2 = true := by kernel_rfl
theorem fl61f0 : Sl.fieldT Tryd.prog 61 0 0 = true := by kernel_rfl
theorem fl61f1 : Sl.fieldT Tryd.prog 61 1 1 = true := by kernel_rfl
theorem fl61f2 : Sl.fieldT Tryd.prog 61 2 2 = true := by kernel_rfl
theorem fl63f0 : Sl.fieldT Tryd.prog 63 0 0 = true := by kernel_rfl
theorem fl63f1 : Sl.fieldT Tryd.prog 63 1 1 = true := by kernel_rfl
theorem fl63f2 : Sl.fieldT Tryd.prog 63 2 2 = true := by kernel_rfl
theorem fl63f3 : Sl.fieldT Tryd.prog 63 3 3 = true := by kernel_rfl
theorem is3 : (Tryd.prog.underlying 3).isSome = true := by kernel_rfl
theorem is5 : (Tryd.prog.underlying 5).isSome = true := by kernel_rfl
theorem pl3 : Sl.plainT Tryd.prog 3 = true := by kernel_rfl
theorem pl9 : Sl.plainT Tryd.prog 9 = true := by kernel_rfl
theorem pl23 : Sl.plainT Tryd.prog 23 = true := by kernel_rfl
theorem pl26 : Sl.plainT Tryd.prog 26 = true := by kernel_rfl
theorem pl33 : Sl.plainT Tryd.prog 33 = true := by kernel_rfl
theorem pl35 : Sl.plainT Tryd.prog 35 = true := by kernel_rfl
theorem pl39 : Sl.plainT Tryd.prog 39 = true := by kernel_rfl
theorem pl50 : Sl.plainT Tryd.prog 50 = true := by kernel_rfl
theorem pl67 : Sl.plainT Tryd.prog 67 = true := by kernel_rfl
theorem sz3 : Sl.sizeT Tryd.prog 3 1 = true := by kernel_rfl
theorem sz9 : Sl.sizeT Tryd.prog 9 1 = true := by kernel_rfl
theorem sz33 : Sl.sizeT Tryd.prog 33 1 = true := by kernel_rfl
theorem sz35 : Sl.sizeT Tryd.prog 35 1 = true := by kernel_rfl
theorem sz39 : Sl.sizeT Tryd.prog 39 1 = true := by kernel_rfl
theorem sz50 : Sl.sizeT Tryd.prog 50 1 = true := by kernel_rfl
theorem sz63 : Sl.sizeT Tryd.prog 63 4 = true := by kernel_rfl
theorem sz67 : Sl.sizeT Tryd.prog 67 1 = true := by kernel_rfl
theorem zx3 : (Tryd.prog.info? 3).map (fun i => (i.zero, i.size, i.bytes)) = some (some (.int .i64 0), 1, 8) := by kernel_rfl
theorem zt3 : Sl.zeroT Tryd.prog 3 (.int .i64 0) 1 8 := Sl.zeroT_of zx3
theorem zx5 : (Tryd.prog.info? 5).map (fun i => (i.zero, i.size, i.bytes)) = some (some (.int .u8 0), 1, 1) := by kernel_rfl
theorem zt5 : Sl.zeroT Tryd.prog 5 (.int .u8 0) 1 1 := Sl.zeroT_of zx5
theorem zx9 : (Tryd.prog.info? 9).map (fun i => (i.zero, i.size, i.bytes)) = some (some (.string ByteArray.empty), 1, 16) := by kernel_rfl
theorem zt9 : Sl.zeroT Tryd.prog 9 (.string ByteArray.empty) 1 16 := Sl.zeroT_of zx9
theorem zx33 : (Tryd.prog.info? 33).map (fun i => (i.zero, i.size, i.bytes)) = some (some (.nilFunc), 1, 8) := by kernel_rfl
theorem zt33 : Sl.zeroT Tryd.prog 33 (.nilFunc) 1 8 := Sl.zeroT_of zx33
theorem zx43 : (Tryd.prog.info? 43).map (fun i => (i.zero, i.size, i.bytes)) = some (some (.agg #[.string ByteArray.empty, .int .i64 0, .int .i64 0]), 3, 32) := by kernel_rfl
theorem zt43 : Sl.zeroT Tryd.prog 43 (.agg #[.string ByteArray.empty, .int .i64 0, .int .i64 0]) 3 32 := Sl.zeroT_of zx43
theorem zx48 : (Tryd.prog.info? 48).map (fun i => (i.zero, i.size, i.bytes)) = some (some (.agg #[.int .i64 0, .int .i64 0]), 2, 16) := by kernel_rfl
theorem zt48 : Sl.zeroT Tryd.prog 48 (.agg #[.int .i64 0, .int .i64 0]) 2 16 := Sl.zeroT_of zx48
theorem zx52 : (Tryd.prog.info? 52).map (fun i => (i.zero, i.size, i.bytes)) = some (some (.agg #[.slice none 0 0, .int .i64 0]), 2, 32) := by kernel_rfl
theorem zt52 : Sl.zeroT Tryd.prog 52 (.agg #[.slice none 0 0, .int .i64 0]) 2 32 := Sl.zeroT_of zx52
theorem zx54 : (Tryd.prog.info? 54).map (fun i => (i.zero, i.size, i.bytes)) = some (some (.agg #[.pointer none, .slice none 0 0, .slice none 0 0]), 3, 56) := by kernel_rfl
theorem zt54 : Sl.zeroT Tryd.prog 54 (.agg #[.pointer none, .slice none 0 0, .slice none 0 0]) 3 56 := Sl.zeroT_of zx54
theorem zx61 : (Tryd.prog.info? 61).map (fun i => (i.zero, i.size, i.bytes)) = some (some (.agg #[.nilFunc, .string ByteArray.empty, .int .i64 0]), 3, 32) := by kernel_rfl
theorem zt61 : Sl.zeroT Tryd.prog 61 (.agg #[.nilFunc, .string ByteArray.empty, .int .i64 0]) 3 32 := Sl.zeroT_of zx61
theorem zx63 : (Tryd.prog.info? 63).map (fun i => (i.zero, i.size, i.bytes)) = some (some (.agg #[.string ByteArray.empty, .int .i64 0, .int .i64 0, .int .i64 0]), 4, 40) := by kernel_rfl
theorem zt63 : Sl.zeroT Tryd.prog 63 (.agg #[.string ByteArray.empty, .int .i64 0, .int .i64 0, .int .i64 0]) 4 40 := Sl.zeroT_of zx63
theorem zx67 : (Tryd.prog.info? 67).map (fun i => (i.zero, i.size, i.bytes)) = some (some (.nilFunc), 1, 8) := by kernel_rfl
theorem zt67 : Sl.zeroT Tryd.prog 67 (.nilFunc) 1 8 := Sl.zeroT_of zx67
end Go.Proofs.YtoeglkkmjmhmiaaDoor
