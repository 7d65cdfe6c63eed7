/-
  Facts on the seat's types and functions, by program.
-/
import Derived.Test.YtekoilhjlofncaaProg
import Derived.Test.YtekoilhjlofncaaSlMore
import Derived.Test.YtekoilhjlofncaaSlEq
import Derived.KernelRfl
namespace Go.Proofs.Ytekoilhjlofncaa
open Go.Sl
theorem ag24 : Sl.aggT Try.prog 24 = true := by kernel_rfl
theorem ag28 : Sl.aggT Try.prog 28 = true := by kernel_rfl
theorem ag39 : Sl.aggT Try.prog 39 = true := by kernel_rfl
theorem ag63 : Sl.aggT Try.prog 63 = true := by kernel_rfl
theorem bt24 : Sl.structT Try.prog 24 = some [(0, 1), (1, 1), (2, 1)] := by kernel_rfl
theorem bt28 : Sl.structT Try.prog 28 = some [(0, 1), (1, 1), (2, 1), (3, 1), (4, 1), (5, 1), (6, 1), (7, 1), (8, 1)] := by kernel_rfl
theorem bt39 : Sl.structT Try.prog 39 = some [(0, 1), (1, 1)] := by kernel_rfl
theorem bt54 : Sl.structT Try.prog 54 = some [(0, 1), (1, 1), (2, 3), (5, 1), (6, 1), (7, 1), (8, 1), (9, 6), (15, 6), (21, 6), (27, 1)] := by kernel_rfl
theorem bt70 : Sl.structT Try.prog 70 = some [(0, 1), (1, 1), (2, 1), (3, 1), (4, 1)] := by kernel_rfl
theorem bt76 : Sl.structT Try.prog 76 = some [(0, 1), (1, 1), (2, 1), (3, 1), (4, 1), (5, 1), (6, 1), (7, 1), (8, 1), (9, 1), (10, 1), (11, 1)] := by kernel_rfl
theorem bt77 : Sl.structT Try.prog 77 = some [] := by kernel_rfl
theorem bt93 : Sl.structT Try.prog 93 = some [(0, 1), (1, 1)] := by kernel_rfl
theorem ct9 : Sl.callT Try.prog 9 = true := by kernel_rfl
theorem ct10 : Sl.callT Try.prog 10 = true := by kernel_rfl
theorem ct12 : Sl.callT Try.prog 12 = true := by kernel_rfl
theorem ct15 : Sl.callT Try.prog 15 = true := by kernel_rfl
theorem ct17 : Sl.callT Try.prog 17 = true := by kernel_rfl
theorem ct19 : Sl.callT Try.prog 19 = true := by kernel_rfl
theorem ct21 : Sl.callT Try.prog 21 = true := by kernel_rfl
theorem ct23 : Sl.callT Try.prog 23 = true := by kernel_rfl
theorem ct24 : Sl.callT Try.prog 24 = true := by kernel_rfl
theorem ct25 : Sl.callT Try.prog 25 = true := by kernel_rfl
theorem ct26 : Sl.callT Try.prog 26 = true := by kernel_rfl
theorem ct27 : Sl.callT Try.prog 27 = true := by kernel_rfl
theorem ct28 : Sl.callT Try.prog 28 = true := by kernel_rfl
theorem ct29 : Sl.callT Try.prog 29 = true := by kernel_rfl
theorem ct30 : Sl.callT Try.prog 30 = true := by kernel_rfl
theorem ct31 : Sl.callT Try.prog 31 = true := by kernel_rfl
theorem ct32 : Sl.callT Try.prog 32 = true := by kernel_rfl
theorem ct33 : Sl.callT Try.prog 33 = true := by kernel_rfl
theorem ct34 : Sl.callT Try.prog 34 = true := by kernel_rfl
theorem ct35 : Sl.callT Try.prog 35 = true := by kernel_rfl
theorem ct36 : Sl.callT Try.prog 36 = true := by kernel_rfl
theorem ct37 : Sl.callT Try.prog 37 = true := by kernel_rfl
theorem ct38 : Sl.callT Try.prog 38 = true := by kernel_rfl
theorem ct39 : Sl.callT Try.prog 39 = true := by kernel_rfl
theorem ct40 : Sl.callT Try.prog 40 = true := by kernel_rfl
theorem ct41 : Sl.callT Try.prog 41 = true := by kernel_rfl
theorem ct42 : Sl.callT Try.prog 42 = true := by kernel_rfl
theorem ct43 : Sl.callT Try.prog 43 = true := by kernel_rfl
theorem ct44 : Sl.callT Try.prog 44 = true := by kernel_rfl
theorem ct45 : Sl.callT Try.prog 45 = true := by kernel_rfl
theorem ct46 : Sl.callT Try.prog 46 = true := by kernel_rfl
theorem ct47 : Sl.callT Try.prog 47 = true := by kernel_rfl
theorem ct48 : Sl.callT Try.prog 48 = true := by kernel_rfl
theorem ct49 : Sl.callT Try.prog 49 = true := by kernel_rfl
theorem ct50 : Sl.callT Try.prog 50 = true := by kernel_rfl
theorem ct51 : Sl.callT Try.prog 51 = true := by kernel_rfl
theorem ct52 : Sl.callT Try.prog 52 = true := by kernel_rfl
theorem ct53 : Sl.callT Try.prog 53 = true := by kernel_rfl
theorem ct54 : Sl.callT Try.prog 54 = true := by kernel_rfl
theorem ct55 : Sl.callT Try.prog 55 = true := by kernel_rfl
theorem ct56 : Sl.callT Try.prog 56 = true := by kernel_rfl
theorem ct57 : Sl.callT Try.prog 57 = true := by kernel_rfl
theorem ct58 : Sl.callT Try.prog 58 = true := by kernel_rfl
theorem ct59 : Sl.callT Try.prog 59 = true := by kernel_rfl
theorem ct60 : Sl.callT Try.prog 60 = true := by kernel_rfl
theorem ct61 : Sl.callT Try.prog 61 = true := by kernel_rfl
theorem ct62 : Sl.callT Try.prog 62 = true := by kernel_rfl
theorem ct63 : Sl.callT Try.prog 63 = true := by kernel_rfl
theorem ct64 : Sl.callT Try.prog 64 = true := by kernel_rfl
theorem eq39 : Sl.eqT Try.prog 39 = some [(0, .int), (1, .str)] := by kernel_rfl
theorem fl24f0 : Sl.fieldT Try.prog 24 0 0 = true := by kernel_rfl
theorem fl24f1 : Sl.fieldT Try.prog 24 1 1 = true := by kernel_rfl
theorem fl24f2 : Sl.fieldT Try.prog 24 2 2 = true := by kernel_rfl
theorem fl28f0 : Sl.fieldT Try.prog 28 0 0 = true := by kernel_rfl
theorem fl28f1 : Sl.fieldT Try.prog 28 1 1 = true := by kernel_rfl
theorem fl28f2 : Sl.fieldT Try.prog 28 2 2 = true := by kernel_rfl
theorem fl28f3 : Sl.fieldT Try.prog 28 3 3 = true := by kernel_rfl
theorem fl28f4 : Sl.fieldT Try.prog 28 4 4 = true := by kernel_rfl
theorem fl28f5 : Sl.fieldT Try.prog 28 5 5 = true := by kernel_rfl
theorem fl28f6 : Sl.fieldT Try.prog 28 6 6 = true := by kernel_rfl
theorem fl28f7 : Sl.fieldT Try.prog 28 7 7 = true := by kernel_rfl
theorem fl28f8 : Sl.fieldT Try.prog 28 8 8 = true := by kernel_rfl
theorem fl39f0 : Sl.fieldT Try.prog 39 0 0 = true := by kernel_rfl
theorem fl39f1 : Sl.fieldT Try.prog 39 1 1 = true := by kernel_rfl
theorem fl54f0 : Sl.fieldT Try.prog 54 0 0 = true := by kernel_rfl
theorem fl54f1 : Sl.fieldT Try.prog 54 1 1 = true := by kernel_rfl
theorem fl54f2 : Sl.fieldT Try.prog 54 2 2 = true := by kernel_rfl
theorem fl54f3 : Sl.fieldT Try.prog 54 3 5 = true := by kernel_rfl
theorem fl54f4 : Sl.fieldT Try.prog 54 4 6 = true := by kernel_rfl
theorem fl54f5 : Sl.fieldT Try.prog 54 5 7 = true := by kernel_rfl
theorem fl54f6 : Sl.fieldT Try.prog 54 6 8 = true := by kernel_rfl
theorem fl54f7 : Sl.fieldT Try.prog 54 7 9 = true := by kernel_rfl
theorem fl54f8 : Sl.fieldT Try.prog 54 8 15 = true := by kernel_rfl
theorem fl54f9 : Sl.fieldT Try.prog 54 9 21 = true := by kernel_rfl
theorem fl54f10 : Sl.fieldT Try.prog 54 10 27 = true := by kernel_rfl
theorem fl63f0 : Sl.fieldT Try.prog 63 0 0 = true := by kernel_rfl
theorem fl63f1 : Sl.fieldT Try.prog 63 1 1 = true := by kernel_rfl
theorem fl70f0 : Sl.fieldT Try.prog 70 0 0 = true := by kernel_rfl
theorem fl70f1 : Sl.fieldT Try.prog 70 1 1 = true := by kernel_rfl
theorem fl70f2 : Sl.fieldT Try.prog 70 2 2 = true := by kernel_rfl
theorem fl70f3 : Sl.fieldT Try.prog 70 3 3 = true := by kernel_rfl
theorem fl70f4 : Sl.fieldT Try.prog 70 4 4 = true := by kernel_rfl
theorem fl76f0 : Sl.fieldT Try.prog 76 0 0 = true := by kernel_rfl
theorem fl76f1 : Sl.fieldT Try.prog 76 1 1 = true := by kernel_rfl
theorem fl76f2 : Sl.fieldT Try.prog 76 2 2 = true := by kernel_rfl
theorem fl76f3 : Sl.fieldT Try.prog 76 3 3 = true := by kernel_rfl
theorem fl76f4 : Sl.fieldT Try.prog 76 4 4 = true := by kernel_rfl
theorem fl76f5 : Sl.fieldT Try.prog 76 5 5 = true := by kernel_rfl
theorem fl76f6 : Sl.fieldT Try.prog 76 6 6 = true := by kernel_rfl
theorem fl76f7 : Sl.fieldT Try.prog 76 7 7 = true := by kernel_rfl
theorem fl76f8 : Sl.fieldT Try.prog 76 8 8 = true := by kernel_rfl
theorem fl76f9 : Sl.fieldT Try.prog 76 9 9 = true := by kernel_rfl
theorem fl76f10 : Sl.fieldT Try.prog 76 10 10 = true := by kernel_rfl
theorem fl76f11 : Sl.fieldT Try.prog 76 11 11 = true := by kernel_rfl
theorem fl93f0 : Sl.fieldT Try.prog 93 0 0 = true := by kernel_rfl
theorem fl93f1 : Sl.fieldT Try.prog 93 1 1 = true := by kernel_rfl
theorem pl3 : Sl.plainT Try.prog 3 = true := by kernel_rfl
theorem pl4 : Sl.plainT Try.prog 4 = true := by kernel_rfl
theorem pl9 : Sl.plainT Try.prog 9 = true := by kernel_rfl
theorem pl22 : Sl.plainT Try.prog 22 = true := by kernel_rfl
theorem pl32 : Sl.plainT Try.prog 32 = true := by kernel_rfl
theorem pl43 : Sl.plainT Try.prog 43 = true := by kernel_rfl
theorem pl66 : Sl.plainT Try.prog 66 = true := by kernel_rfl
theorem pl67 : Sl.plainT Try.prog 67 = true := by kernel_rfl
theorem pl68 : Sl.plainT Try.prog 68 = true := by kernel_rfl
theorem pl73 : Sl.plainT Try.prog 73 = true := by kernel_rfl
theorem pl74 : Sl.plainT Try.prog 74 = true := by kernel_rfl
theorem sz3 : Sl.sizeT Try.prog 3 1 = true := by kernel_rfl
theorem sz4 : Sl.sizeT Try.prog 4 1 = true := by kernel_rfl
theorem sz22 : Sl.sizeT Try.prog 22 1 = true := by kernel_rfl
theorem sz24 : Sl.sizeT Try.prog 24 3 = true := by kernel_rfl
theorem sz28 : Sl.sizeT Try.prog 28 9 = true := by kernel_rfl
theorem sz32 : Sl.sizeT Try.prog 32 1 = true := by kernel_rfl
theorem sz39 : Sl.sizeT Try.prog 39 2 = true := by kernel_rfl
theorem sz43 : Sl.sizeT Try.prog 43 1 = true := by kernel_rfl
theorem sz51 : Sl.sizeT Try.prog 51 6 = true := by kernel_rfl
theorem sz63 : Sl.sizeT Try.prog 63 2 = true := by kernel_rfl
theorem sz66 : Sl.sizeT Try.prog 66 1 = true := by kernel_rfl
theorem sz67 : Sl.sizeT Try.prog 67 1 = true := by kernel_rfl
theorem sz68 : Sl.sizeT Try.prog 68 1 = true := by kernel_rfl
theorem sz73 : Sl.sizeT Try.prog 73 1 = true := by kernel_rfl
theorem sz74 : Sl.sizeT Try.prog 74 1 = true := by kernel_rfl
theorem sz95 : Sl.sizeT Try.prog 95 2 = true := by kernel_rfl
theorem zx3 : (Try.prog.info? 3).map (fun i => (i.zero, i.size, i.bytes)) = some (some (.int .i64 0), 1, 8) := by kernel_rfl
theorem zt3 : Sl.zeroT Try.prog 3 (.int .i64 0) 1 8 := Sl.zeroT_of zx3
theorem zx24 : (Try.prog.info? 24).map (fun i => (i.zero, i.size, i.bytes)) = some (some (.agg #[.int .i64 0, .int .i64 0, .slice none 0 0]), 3, 40) := by kernel_rfl
theorem zt24 : Sl.zeroT Try.prog 24 (.agg #[.int .i64 0, .int .i64 0, .slice none 0 0]) 3 40 := Sl.zeroT_of zx24
theorem zx28 : (Try.prog.info? 28).map (fun i => (i.zero, i.size, i.bytes)) = some (some (.agg #[.int .i64 0, .int .i64 0, .int .i64 0, .int .i64 0, .int .i64 0, .int .i64 0, .int .i64 0, .bool false, .slice none 0 0]), 9, 88) := by kernel_rfl
theorem zt28 : Sl.zeroT Try.prog 28 (.agg #[.int .i64 0, .int .i64 0, .int .i64 0, .int .i64 0, .int .i64 0, .int .i64 0, .int .i64 0, .bool false, .slice none 0 0]) 9 88 := Sl.zeroT_of zx28
theorem zx32 : (Try.prog.info? 32).map (fun i => (i.zero, i.size, i.bytes)) = some (some (.pointer none), 1, 8) := by kernel_rfl
theorem zt32 : Sl.zeroT Try.prog 32 (.pointer none) 1 8 := Sl.zeroT_of zx32
theorem zx39 : (Try.prog.info? 39).map (fun i => (i.zero, i.size, i.bytes)) = some (some (.agg #[.int .i64 0, .string ByteArray.empty]), 2, 24) := by kernel_rfl
theorem zt39 : Sl.zeroT Try.prog 39 (.agg #[.int .i64 0, .string ByteArray.empty]) 2 24 := Sl.zeroT_of zx39
theorem zx43 : (Try.prog.info? 43).map (fun i => (i.zero, i.size, i.bytes)) = some (some (.slice none 0 0), 1, 24) := by kernel_rfl
theorem zt43 : Sl.zeroT Try.prog 43 (.slice none 0 0) 1 24 := Sl.zeroT_of zx43
theorem zx51 : (Try.prog.info? 51).map (fun i => (i.zero, i.size, i.bytes)) = some (some (.agg #[.bool false, .bool false, .bool false, .bool false, .bool false, .bool false]), 6, 6) := by kernel_rfl
theorem zt51 : Sl.zeroT Try.prog 51 (.agg #[.bool false, .bool false, .bool false, .bool false, .bool false, .bool false]) 6 6 := Sl.zeroT_of zx51
theorem zx54 : (Try.prog.info? 54).map (fun i => (i.zero, i.size, i.bytes)) = some (some (.agg #[.int .i64 0, .int .i64 0, .int .i64 0, .int .i64 0, .slice none 0 0, .int .i64 0, .int .i64 0, .int .i64 0, .int .i64 0, .bool false, .bool false, .bool false, .bool false, .bool false, .bool false, .int .i64 0, .int .i64 0, .int .i64 0, .int .i64 0, .int .i64 0, .int .i64 0, .int .i64 0, .int .i64 0, .int .i64 0, .int .i64 0, .int .i64 0, .int .i64 0, .int .i64 0]), 28, 200) := by kernel_rfl
theorem zt54 : Sl.zeroT Try.prog 54 (.agg #[.int .i64 0, .int .i64 0, .int .i64 0, .int .i64 0, .slice none 0 0, .int .i64 0, .int .i64 0, .int .i64 0, .int .i64 0, .bool false, .bool false, .bool false, .bool false, .bool false, .bool false, .int .i64 0, .int .i64 0, .int .i64 0, .int .i64 0, .int .i64 0, .int .i64 0, .int .i64 0, .int .i64 0, .int .i64 0, .int .i64 0, .int .i64 0, .int .i64 0, .int .i64 0]) 28 200 := Sl.zeroT_of zx54
theorem zx63 : (Try.prog.info? 63).map (fun i => (i.zero, i.size, i.bytes)) = some (some (.agg #[.int .i64 0, .int .i64 0]), 2, 16) := by kernel_rfl
theorem zt63 : Sl.zeroT Try.prog 63 (.agg #[.int .i64 0, .int .i64 0]) 2 16 := Sl.zeroT_of zx63
theorem zx70 : (Try.prog.info? 70).map (fun i => (i.zero, i.size, i.bytes)) = some (some (.agg #[.slice none 0 0, .slice none 0 0, .slice none 0 0, .slice none 0 0, .slice none 0 0]), 5, 120) := by kernel_rfl
theorem zt70 : Sl.zeroT Try.prog 70 (.agg #[.slice none 0 0, .slice none 0 0, .slice none 0 0, .slice none 0 0, .slice none 0 0]) 5 120 := Sl.zeroT_of zx70
theorem zx76 : (Try.prog.info? 76).map (fun i => (i.zero, i.size, i.bytes)) = some (some (.agg #[.int .i64 0, .int .i64 0, .int .i64 0, .int .i64 0, .slice none 0 0, .int .i64 0, .int .i64 0, .int .i64 0, .int .i64 0, .int .i64 0, .map none, .map none]), 12, 112) := by kernel_rfl
theorem zt76 : Sl.zeroT Try.prog 76 (.agg #[.int .i64 0, .int .i64 0, .int .i64 0, .int .i64 0, .slice none 0 0, .int .i64 0, .int .i64 0, .int .i64 0, .int .i64 0, .int .i64 0, .map none, .map none]) 12 112 := Sl.zeroT_of zx76
theorem zx77 : (Try.prog.info? 77).map (fun i => (i.zero, i.size, i.bytes)) = some (some (.agg #[]), 0, 0) := by kernel_rfl
theorem zt77 : Sl.zeroT Try.prog 77 (.agg #[]) 0 0 := Sl.zeroT_of zx77
theorem zx93 : (Try.prog.info? 93).map (fun i => (i.zero, i.size, i.bytes)) = some (some (.agg #[.int .i64 0, .int .i64 0]), 2, 16) := by kernel_rfl
theorem zt93 : Sl.zeroT Try.prog 93 (.agg #[.int .i64 0, .int .i64 0]) 2 16 := Sl.zeroT_of zx93
theorem zx95 : (Try.prog.info? 95).map (fun i => (i.zero, i.size, i.bytes)) = some (some (.agg #[.int .i64 0, .int .i64 0]), 2, 16) := by kernel_rfl
theorem zt95 : Sl.zeroT Try.prog 95 (.agg #[.int .i64 0, .int .i64 0]) 2 16 := Sl.zeroT_of zx95
end Go.Proofs.Ytekoilhjlofncaa
