/-
  Facts on the seat's types and functions, by program.
-/
import Derived.Test.YtephlppgappcnaaProg
import Derived.Test.YtephlppgappcnaaSlMore
import Derived.KernelRfl
namespace Go.Proofs.Ytephlppgappcnaa
open Go.Sl
theorem ag46 : Sl.aggT Try.prog 46 = true := by kernel_rfl
theorem bt50 : Sl.structT Try.prog 50 = some [(0, 1), (1, 1), (2, 1), (3, 1), (4, 1)] := by kernel_rfl
theorem bt55 : Sl.structT Try.prog 55 = some [(0, 1), (1, 1), (2, 1), (3, 1)] := by kernel_rfl
theorem bt60 : Sl.structT Try.prog 60 = some [(0, 1), (1, 1), (2, 1), (3, 1), (4, 1)] := by kernel_rfl
theorem bt64 : Sl.structT Try.prog 64 = some [(0, 1), (1, 1)] := by kernel_rfl
theorem bt70 : Sl.structT Try.prog 70 = some [(0, 1), (1, 1), (2, 1), (3, 1)] := by kernel_rfl
theorem bt79 : Sl.structT Try.prog 79 = some [(0, 1), (1, 1), (2, 1)] := by kernel_rfl
theorem ct8 : Sl.callT Try.prog 8 = true := by kernel_rfl
theorem ct9 : Sl.callT Try.prog 9 = true := by kernel_rfl
theorem ct10 : Sl.callT Try.prog 10 = true := by kernel_rfl
theorem ct11 : Sl.callT Try.prog 11 = true := by kernel_rfl
theorem ct12 : Sl.callT Try.prog 12 = true := by kernel_rfl
theorem ct13 : Sl.callT Try.prog 13 = true := by kernel_rfl
theorem ct14 : Sl.callT Try.prog 14 = true := by kernel_rfl
theorem ct15 : Sl.callT Try.prog 15 = true := by kernel_rfl
theorem ct16 : Sl.callT Try.prog 16 = true := by kernel_rfl
theorem ct17 : Sl.callT Try.prog 17 = true := by kernel_rfl
theorem ct18 : Sl.callT Try.prog 18 = true := by kernel_rfl
theorem ct19 : Sl.callT Try.prog 19 = true := by kernel_rfl
theorem ct20 : Sl.callT Try.prog 20 = true := by kernel_rfl
theorem ct21 : Sl.callT Try.prog 21 = true := by kernel_rfl
theorem ct22 : Sl.callT Try.prog 22 = true := by kernel_rfl
theorem ct23 : Sl.callT Try.prog 23 = true := by kernel_rfl
theorem ct24 : Sl.callT Try.prog 24 = true := by kernel_rfl
theorem ct25 : Sl.callT Try.prog 25 = true := by kernel_rfl
theorem ct26 : Sl.callT Try.prog 26 = true := by kernel_rfl
theorem ct27 : Sl.callT Try.prog 27 = true := by kernel_rfl
theorem ct28 : Sl.callT Try.prog 28 = true := by kernel_rfl
theorem ct29 : Sl.callT Try.prog 29 = true := by kernel_rfl
theorem ct30 : Sl.callT Try.prog 30 = true := by kernel_rfl
theorem ct31 : Sl.callT Try.prog 31 = true := by kernel_rfl
theorem ct32 : Sl.callT Try.prog 32 = true := by kernel_rfl
theorem ct33 : Sl.callT Try.prog 33 = true := by kernel_rfl
theorem ct34 : Sl.callT Try.prog 34 = true := by kernel_rfl
theorem ct35 : Sl.callT Try.prog 35 = true := by kernel_rfl
theorem ct36 : Sl.callT Try.prog 36 = true := by kernel_rfl
theorem ct37 : Sl.callT Try.prog 37 = true := by kernel_rfl
theorem ct38 : Sl.callT Try.prog 38 = true := by kernel_rfl
theorem ct39 : Sl.callT Try.prog 39 = true := by kernel_rfl
theorem ct40 : Sl.callT Try.prog 40 = true := by kernel_rfl
theorem ct41 : Sl.callT Try.prog 41 = true := by kernel_rfl
theorem ct42 : Sl.callT Try.prog 42 = true := by kernel_rfl
theorem ct43 : Sl.callT Try.prog 43 = true := by kernel_rfl
theorem ct44 : Sl.callT Try.prog 44 = true := by kernel_rfl
theorem ct45 : Sl.callT Try.prog 45 = true := by kernel_rfl
theorem ct46 : Sl.callT Try.prog 46 = true := by kernel_rfl
theorem ct47 : Sl.callT Try.prog 47 = true := by kernel_rfl
theorem ct48 : Sl.callT Try.prog 48 = true := by kernel_rfl
theorem ct49 : Sl.callT Try.prog 49 = true := by kernel_rfl
theorem ct50 : Sl.callT Try.prog 50 = true := by kernel_rfl
theorem ct51 : Sl.callT Try.prog 51 = true := by kernel_rfl
theorem ct52 : Sl.callT Try.prog 52 = true := by kernel_rfl
theorem ct53 : Sl.callT Try.prog 53 = true := by kernel_rfl
theorem fl46f0 : Sl.fieldT Try.prog 46 0 0 = true := by kernel_rfl
theorem fl46f1 : Sl.fieldT Try.prog 46 1 1 = true := by kernel_rfl
theorem fl46f2 : Sl.fieldT Try.prog 46 2 2 = true := by kernel_rfl
theorem fl46f3 : Sl.fieldT Try.prog 46 3 3 = true := by kernel_rfl
theorem fl50f0 : Sl.fieldT Try.prog 50 0 0 = true := by kernel_rfl
theorem fl50f1 : Sl.fieldT Try.prog 50 1 1 = true := by kernel_rfl
theorem fl50f2 : Sl.fieldT Try.prog 50 2 2 = true := by kernel_rfl
theorem fl50f3 : Sl.fieldT Try.prog 50 3 3 = true := by kernel_rfl
theorem fl50f4 : Sl.fieldT Try.prog 50 4 4 = true := by kernel_rfl
theorem fl55f0 : Sl.fieldT Try.prog 55 0 0 = true := by kernel_rfl
theorem fl55f1 : Sl.fieldT Try.prog 55 1 1 = true := by kernel_rfl
theorem fl55f2 : Sl.fieldT Try.prog 55 2 2 = true := by kernel_rfl
theorem fl55f3 : Sl.fieldT Try.prog 55 3 3 = true := by kernel_rfl
theorem fl60f0 : Sl.fieldT Try.prog 60 0 0 = true := by kernel_rfl
theorem fl60f1 : Sl.fieldT Try.prog 60 1 1 = true := by kernel_rfl
theorem fl60f2 : Sl.fieldT Try.prog 60 2 2 = true := by kernel_rfl
theorem fl60f3 : Sl.fieldT Try.prog 60 3 3 = true := by kernel_rfl
theorem fl60f4 : Sl.fieldT Try.prog 60 4 4 = true := by kernel_rfl
theorem fl64f0 : Sl.fieldT Try.prog 64 0 0 = true := by kernel_rfl
theorem fl64f1 : Sl.fieldT Try.prog 64 1 1 = true := by kernel_rfl
theorem fl70f0 : Sl.fieldT Try.prog 70 0 0 = true := by kernel_rfl
theorem fl70f1 : Sl.fieldT Try.prog 70 1 1 = true := by kernel_rfl
theorem fl70f2 : Sl.fieldT Try.prog 70 2 2 = true := by kernel_rfl
theorem fl70f3 : Sl.fieldT Try.prog 70 3 3 = true := by kernel_rfl
theorem fl79f0 : Sl.fieldT Try.prog 79 0 0 = true := by kernel_rfl
theorem fl79f1 : Sl.fieldT Try.prog 79 1 1 = true := by kernel_rfl
theorem fl79f2 : Sl.fieldT Try.prog 79 2 2 = true := by kernel_rfl
theorem is3 : (Try.prog.underlying 3).isSome = true := by kernel_rfl
theorem is5 : (Try.prog.underlying 5).isSome = true := by kernel_rfl
theorem is81 : (Try.prog.underlying 81).isSome = true := by kernel_rfl
theorem pl3 : Sl.plainT Try.prog 3 = true := by kernel_rfl
theorem pl4 : Sl.plainT Try.prog 4 = true := by kernel_rfl
theorem pl5 : Sl.plainT Try.prog 5 = true := by kernel_rfl
theorem pl9 : Sl.plainT Try.prog 9 = true := by kernel_rfl
theorem pl22 : Sl.plainT Try.prog 22 = true := by kernel_rfl
theorem pl23 : Sl.plainT Try.prog 23 = true := by kernel_rfl
theorem pl47 : Sl.plainT Try.prog 47 = true := by kernel_rfl
theorem pl48 : Sl.plainT Try.prog 48 = true := by kernel_rfl
theorem pl58 : Sl.plainT Try.prog 58 = true := by kernel_rfl
theorem pl62 : Sl.plainT Try.prog 62 = true := by kernel_rfl
theorem sz3 : Sl.sizeT Try.prog 3 1 = true := by kernel_rfl
theorem sz4 : Sl.sizeT Try.prog 4 1 = true := by kernel_rfl
theorem sz5 : Sl.sizeT Try.prog 5 1 = true := by kernel_rfl
theorem sz22 : Sl.sizeT Try.prog 22 1 = true := by kernel_rfl
theorem sz46 : Sl.sizeT Try.prog 46 4 = true := by kernel_rfl
theorem sz48 : Sl.sizeT Try.prog 48 1 = true := by kernel_rfl
theorem sz62 : Sl.sizeT Try.prog 62 1 = true := by kernel_rfl
theorem sz79 : Sl.sizeT Try.prog 79 3 = true := by kernel_rfl
theorem zx5 : (Try.prog.info? 5).map (fun i => (i.zero, i.size, i.bytes)) = some (some (.int .u8 0), 1, 1) := by kernel_rfl
theorem zt5 : Sl.zeroT Try.prog 5 (.int .u8 0) 1 1 := Sl.zeroT_of zx5
theorem zx22 : (Try.prog.info? 22).map (fun i => (i.zero, i.size, i.bytes)) = some (some (.slice none 0 0), 1, 24) := by kernel_rfl
theorem zt22 : Sl.zeroT Try.prog 22 (.slice none 0 0) 1 24 := Sl.zeroT_of zx22
theorem zx46 : (Try.prog.info? 46).map (fun i => (i.zero, i.size, i.bytes)) = some (some (.agg #[.int .i64 0, .slice none 0 0, .int .i64 0, .int .i64 0]), 4, 48) := by kernel_rfl
theorem zt46 : Sl.zeroT Try.prog 46 (.agg #[.int .i64 0, .slice none 0 0, .int .i64 0, .int .i64 0]) 4 48 := Sl.zeroT_of zx46
theorem zx50 : (Try.prog.info? 50).map (fun i => (i.zero, i.size, i.bytes)) = some (some (.agg #[.slice none 0 0, .bool false, .int .i64 0, .int .i64 0, .int .i64 0]), 5, 56) := by kernel_rfl
theorem zt50 : Sl.zeroT Try.prog 50 (.agg #[.slice none 0 0, .bool false, .int .i64 0, .int .i64 0, .int .i64 0]) 5 56 := Sl.zeroT_of zx50
theorem zx55 : (Try.prog.info? 55).map (fun i => (i.zero, i.size, i.bytes)) = some (some (.agg #[.pointer none, .string ByteArray.empty, .int .i64 0, .bool false]), 4, 40) := by kernel_rfl
theorem zt55 : Sl.zeroT Try.prog 55 (.agg #[.pointer none, .string ByteArray.empty, .int .i64 0, .bool false]) 4 40 := Sl.zeroT_of zx55
theorem zx60 : (Try.prog.info? 60).map (fun i => (i.zero, i.size, i.bytes)) = some (some (.agg #[.map none, .bool false, .int .i64 0, .int .i64 0, .int .i64 0]), 5, 40) := by kernel_rfl
theorem zt60 : Sl.zeroT Try.prog 60 (.agg #[.map none, .bool false, .int .i64 0, .int .i64 0, .int .i64 0]) 5 40 := Sl.zeroT_of zx60
theorem zx62 : (Try.prog.info? 62).map (fun i => (i.zero, i.size, i.bytes)) = some (some (.pointer none), 1, 8) := by kernel_rfl
theorem zt62 : Sl.zeroT Try.prog 62 (.pointer none) 1 8 := Sl.zeroT_of zx62
theorem zx64 : (Try.prog.info? 64).map (fun i => (i.zero, i.size, i.bytes)) = some (some (.agg #[.slice none 0 0, .int .i64 0]), 2, 32) := by kernel_rfl
theorem zt64 : Sl.zeroT Try.prog 64 (.agg #[.slice none 0 0, .int .i64 0]) 2 32 := Sl.zeroT_of zx64
theorem zx70 : (Try.prog.info? 70).map (fun i => (i.zero, i.size, i.bytes)) = some (some (.agg #[.pointer none, .string ByteArray.empty, .int .i64 0, .bool false]), 4, 40) := by kernel_rfl
theorem zt70 : Sl.zeroT Try.prog 70 (.agg #[.pointer none, .string ByteArray.empty, .int .i64 0, .bool false]) 4 40 := Sl.zeroT_of zx70
theorem zx79 : (Try.prog.info? 79).map (fun i => (i.zero, i.size, i.bytes)) = some (some (.agg #[.string ByteArray.empty, .slice none 0 0, .int .i64 0]), 3, 48) := by kernel_rfl
theorem zt79 : Sl.zeroT Try.prog 79 (.agg #[.string ByteArray.empty, .slice none 0 0, .int .i64 0]) 3 48 := Sl.zeroT_of zx79
end Go.Proofs.Ytephlppgappcnaa
