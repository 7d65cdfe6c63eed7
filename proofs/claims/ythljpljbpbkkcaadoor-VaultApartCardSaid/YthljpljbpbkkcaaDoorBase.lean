/-
  Facts on the seat's types and functions, by program.
-/
import Derived.Test.YthljpljbpbkkcaaDoorProg
import Derived.Test.YthljpljbpbkkcaaDoorSlMore
import Derived.KernelRfl
namespace Go.Proofs.YthljpljbpbkkcaaDoor
open Go.Sl
theorem ag24 : Sl.aggT Tryd.prog 24 = true := by kernel_rfl
theorem ag36 : Sl.aggT Tryd.prog 36 = true := by kernel_rfl
theorem ag62 : Sl.aggT Tryd.prog 62 = true := by kernel_rfl
theorem bt24 : Sl.structT Tryd.prog 24 = some [(0, 1), (1, 1)] := by kernel_rfl
theorem bt56 : Sl.structT Tryd.prog 56 = some [(0, 1), (1, 1), (2, 1), (3, 1)] := by kernel_rfl
theorem bt60 : Sl.structT Tryd.prog 60 = some [(0, 1), (1, 1), (2, 1), (3, 1), (4, 1)] := by kernel_rfl
theorem bt62 : Sl.structT Tryd.prog 62 = some [(0, 1), (1, 1), (2, 2)] := by kernel_rfl
theorem bt80 : Sl.structT Tryd.prog 80 = some [(0, 1), (1, 1), (2, 1), (3, 1)] := by kernel_rfl
theorem bt96 : Sl.structT Tryd.prog 96 = some [(0, 1), (1, 1)] := by kernel_rfl
theorem ct7 : Sl.callT Tryd.prog 7 = true := by kernel_rfl
theorem ct8 : Sl.callT Tryd.prog 8 = true := by kernel_rfl
theorem ct9 : Sl.callT Tryd.prog 9 = true := by kernel_rfl
theorem ct10 : Sl.callT Tryd.prog 10 = true := by kernel_rfl
theorem ct11 : Sl.callT Tryd.prog 11 = true := by kernel_rfl
theorem ct12 : Sl.callT Tryd.prog 12 = true := by kernel_rfl
theorem ct13 : Sl.callT Tryd.prog 13 = true := by kernel_rfl
theorem ct14 : Sl.callT Tryd.prog 14 = true := by kernel_rfl
theorem ct15 : Sl.callT Tryd.prog 15 = true := by kernel_rfl
theorem ct16 : Sl.callT Tryd.prog 16 = true := by kernel_rfl
theorem ct17 : Sl.callT Tryd.prog 17 = true := by kernel_rfl
theorem ct19 : Sl.callT Tryd.prog 19 = true := by kernel_rfl
theorem ct20 : Sl.callT Tryd.prog 20 = true := by kernel_rfl
theorem ct21 : Sl.callT Tryd.prog 21 = true := by kernel_rfl
theorem ct22 : Sl.callT Tryd.prog 22 = true := by kernel_rfl
theorem ct23 : Sl.callT Tryd.prog 23 = true := by kernel_rfl
theorem ct24 : Sl.callT Tryd.prog 24 = true := by kernel_rfl
theorem ct25 : Sl.callT Tryd.prog 25 = true := by kernel_rfl
theorem ct26 : Sl.callT Tryd.prog 26 = true := by kernel_rfl
theorem ct27 : Sl.callT Tryd.prog 27 = true := by kernel_rfl
theorem ct28 : Sl.callT Tryd.prog 28 = true := by kernel_rfl
theorem ct29 : Sl.callT Tryd.prog 29 = true := by kernel_rfl
theorem ct30 : Sl.callT Tryd.prog 30 = true := by kernel_rfl
theorem ct31 : Sl.callT Tryd.prog 31 = true := by kernel_rfl
theorem ct32 : Sl.callT Tryd.prog 32 = true := by kernel_rfl
theorem ct33 : Sl.callT Tryd.prog 33 = true := by kernel_rfl
theorem ct34 : Sl.callT Tryd.prog 34 = true := by kernel_rfl
theorem ct35 : Sl.callT Tryd.prog 35 = true := by kernel_rfl
theorem ct40 : Sl.callT Tryd.prog 40 = true := by kernel_rfl
theorem ct41 : Sl.callT Tryd.prog 41 = true := by kernel_rfl
theorem ct42 : Sl.callT Tryd.prog 42 = true := by kernel_rfl
theorem ct43 : Sl.callT Tryd.prog 43 = true := by kernel_rfl
theorem ct44 : Sl.callT Tryd.prog 44 = true := by kernel_rfl
theorem ct47 : Sl.callT Tryd.prog 47 = true := by kernel_rfl
theorem ct48 : Sl.callT Tryd.prog 48 = true := by kernel_rfl
theorem ct49 : Sl.callT Tryd.prog 49 = true := by kernel_rfl
theorem ct50 : Sl.callT Tryd.prog 50 = true := by kernel_rfl
theorem ct51 : Sl.callT Tryd.prog 51 = true := by kernel_rfl
theorem ct52 : Sl.callT Tryd.prog 52 = true := by kernel_rfl
theorem ct54 : Sl.callT Tryd.prog 54 = true := by kernel_rfl
theorem ct55 : Sl.callT Tryd.prog 55 = true := by kernel_rfl
theorem ct56 : Sl.callT Tryd.prog 56 = true := by kernel_rfl
theorem ct57 : Sl.callT Tryd.prog 57 = true := by kernel_rfl
theorem ct69 : Sl.callT Tryd.prog 69 = true := by kernel_rfl
theorem ct77 : Sl.callT Tryd.prog 77 = true := by kernel_rfl
theorem ct78 : Sl.callT Tryd.prog 78 = true := by kernel_rfl
theorem ct79 : Sl.callT Tryd.prog 79 = true := by kernel_rfl
theorem ct80 : Sl.callT Tryd.prog 80 = true := by kernel_rfl
theorem ct81 : Sl.callT Tryd.prog 81 = true := by kernel_rfl
theorem fl24f0 : Sl.fieldT Tryd.prog 24 0 0 = true := by kernel_rfl
theorem fl24f1 : Sl.fieldT Tryd.prog 24 1 1 = true := by kernel_rfl
theorem fl36f0 : Sl.fieldT Tryd.prog 36 0 0 = true := by kernel_rfl
theorem fl36f1 : Sl.fieldT Tryd.prog 36 1 1 = true := by kernel_rfl
theorem fl36f3 : Sl.fieldT Tryd.prog 36 3 3 = true := by kernel_rfl
theorem fl36f4 : Sl.fieldT Tryd.prog 36 4 4 = true := by kernel_rfl
theorem fl36f5 : Sl.fieldT Tryd.prog 36 5 6 = true := by kernel_rfl
theorem fl56f0 : Sl.fieldT Tryd.prog 56 0 0 = true := by kernel_rfl
theorem fl56f1 : Sl.fieldT Tryd.prog 56 1 1 = true := by kernel_rfl
theorem fl56f2 : Sl.fieldT Tryd.prog 56 2 2 = true := by kernel_rfl
theorem fl56f3 : Sl.fieldT Tryd.prog 56 3 3 = true := by kernel_rfl
theorem fl60f0 : Sl.fieldT Tryd.prog 60 0 0 = true := by kernel_rfl
theorem fl60f1 : Sl.fieldT Tryd.prog 60 1 1 = true := by kernel_rfl
theorem fl60f2 : Sl.fieldT Tryd.prog 60 2 2 = true := by kernel_rfl
theorem fl60f3 : Sl.fieldT Tryd.prog 60 3 3 = true := by kernel_rfl
theorem fl60f4 : Sl.fieldT Tryd.prog 60 4 4 = true := by kernel_rfl
theorem fl62f0 : Sl.fieldT Tryd.prog 62 0 0 = true := by kernel_rfl
theorem fl62f1 : Sl.fieldT Tryd.prog 62 1 1 = true := by kernel_rfl
theorem fl62f2 : Sl.fieldT Tryd.prog 62 2 2 = true := by kernel_rfl
theorem fl80f0 : Sl.fieldT Tryd.prog 80 0 0 = true := by kernel_rfl
theorem fl80f1 : Sl.fieldT Tryd.prog 80 1 1 = true := by kernel_rfl
theorem fl80f2 : Sl.fieldT Tryd.prog 80 2 2 = true := by kernel_rfl
theorem fl80f3 : Sl.fieldT Tryd.prog 80 3 3 = true := by kernel_rfl
theorem fl96f0 : Sl.fieldT Tryd.prog 96 0 0 = true := by kernel_rfl
theorem fl96f1 : Sl.fieldT Tryd.prog 96 1 1 = true := by kernel_rfl
theorem is3 : (Tryd.prog.underlying 3).isSome = true := by kernel_rfl
theorem is5 : (Tryd.prog.underlying 5).isSome = true := by kernel_rfl
theorem is86 : (Tryd.prog.underlying 86).isSome = true := by kernel_rfl
theorem is97 : (Tryd.prog.underlying 97).isSome = true := by kernel_rfl
theorem pl3 : Sl.plainT Tryd.prog 3 = true := by kernel_rfl
theorem pl4 : Sl.plainT Tryd.prog 4 = true := by kernel_rfl
theorem pl5 : Sl.plainT Tryd.prog 5 = true := by kernel_rfl
theorem pl9 : Sl.plainT Tryd.prog 9 = true := by kernel_rfl
theorem pl25 : Sl.plainT Tryd.prog 25 = true := by kernel_rfl
theorem pl27 : Sl.plainT Tryd.prog 27 = true := by kernel_rfl
theorem pl31 : Sl.plainT Tryd.prog 31 = true := by kernel_rfl
theorem pl49 : Sl.plainT Tryd.prog 49 = true := by kernel_rfl
theorem pl53 : Sl.plainT Tryd.prog 53 = true := by kernel_rfl
theorem pl54 : Sl.plainT Tryd.prog 54 = true := by kernel_rfl
theorem pl58 : Sl.plainT Tryd.prog 58 = true := by kernel_rfl
theorem pl92 : Sl.plainT Tryd.prog 92 = true := by kernel_rfl
theorem sz3 : Sl.sizeT Tryd.prog 3 1 = true := by kernel_rfl
theorem sz4 : Sl.sizeT Tryd.prog 4 1 = true := by kernel_rfl
theorem sz5 : Sl.sizeT Tryd.prog 5 1 = true := by kernel_rfl
theorem sz24 : Sl.sizeT Tryd.prog 24 2 = true := by kernel_rfl
theorem sz25 : Sl.sizeT Tryd.prog 25 1 = true := by kernel_rfl
theorem sz36 : Sl.sizeT Tryd.prog 36 7 = true := by kernel_rfl
theorem sz62 : Sl.sizeT Tryd.prog 62 4 = true := by kernel_rfl
theorem sz92 : Sl.sizeT Tryd.prog 92 1 = true := by kernel_rfl
theorem zx3 : (Tryd.prog.info? 3).map (fun i => (i.zero, i.size, i.bytes)) = some (some (.int .i64 0), 1, 8) := by kernel_rfl
theorem zt3 : Sl.zeroT Tryd.prog 3 (.int .i64 0) 1 8 := Sl.zeroT_of zx3
theorem zx5 : (Tryd.prog.info? 5).map (fun i => (i.zero, i.size, i.bytes)) = some (some (.int .u8 0), 1, 1) := by kernel_rfl
theorem zt5 : Sl.zeroT Tryd.prog 5 (.int .u8 0) 1 1 := Sl.zeroT_of zx5
theorem zx24 : (Tryd.prog.info? 24).map (fun i => (i.zero, i.size, i.bytes)) = some (some (.agg #[.int .i64 0, .int .i64 0]), 2, 16) := by kernel_rfl
theorem zt24 : Sl.zeroT Tryd.prog 24 (.agg #[.int .i64 0, .int .i64 0]) 2 16 := Sl.zeroT_of zx24
theorem zx25 : (Tryd.prog.info? 25).map (fun i => (i.zero, i.size, i.bytes)) = some (some (.slice none 0 0), 1, 24) := by kernel_rfl
theorem zt25 : Sl.zeroT Tryd.prog 25 (.slice none 0 0) 1 24 := Sl.zeroT_of zx25
theorem zx36 : (Tryd.prog.info? 36).map (fun i => (i.zero, i.size, i.bytes)) = some (some (.agg #[.int .i64 0, .int .i64 0, .int .i64 0, .string ByteArray.empty, .int .i64 0, .int .i64 0, .slice none 0 0]), 7, 80) := by kernel_rfl
theorem zt36 : Sl.zeroT Tryd.prog 36 (.agg #[.int .i64 0, .int .i64 0, .int .i64 0, .string ByteArray.empty, .int .i64 0, .int .i64 0, .slice none 0 0]) 7 80 := Sl.zeroT_of zx36
theorem zx42 : (Tryd.prog.info? 42).map (fun i => (i.zero, i.size, i.bytes)) = some (some (.agg #[.bool false, .bool false, .bool false, .bool false, .bool false, .bool false, .bool false, .bool false, .bool false, .bool false, .bool false, .bool false, .bool false, .bool false, .bool false, .bool false, .bool false, .bool false, .bool false, .bool false, .bool false, .bool false, .bool false, .bool false, .bool false, .bool false, .bool false, .bool false, .bool false, .bool false, .bool false, .bool false]), 32, 32) := by kernel_rfl
theorem zt42 : Sl.zeroT Tryd.prog 42 (.agg #[.bool false, .bool false, .bool false, .bool false, .bool false, .bool false, .bool false, .bool false, .bool false, .bool false, .bool false, .bool false, .bool false, .bool false, .bool false, .bool false, .bool false, .bool false, .bool false, .bool false, .bool false, .bool false, .bool false, .bool false, .bool false, .bool false, .bool false, .bool false, .bool false, .bool false, .bool false, .bool false]) 32 32 := Sl.zeroT_of zx42
theorem zx56 : (Tryd.prog.info? 56).map (fun i => (i.zero, i.size, i.bytes)) = some (some (.agg #[.map none, .map none, .pointer none, .bool false]), 4, 32) := by kernel_rfl
theorem zt56 : Sl.zeroT Tryd.prog 56 (.agg #[.map none, .map none, .pointer none, .bool false]) 4 32 := Sl.zeroT_of zx56
theorem zx60 : (Tryd.prog.info? 60).map (fun i => (i.zero, i.size, i.bytes)) = some (some (.agg #[.map none, .bool false, .int .i64 0, .int .i64 0, .int .i64 0]), 5, 40) := by kernel_rfl
theorem zt60 : Sl.zeroT Tryd.prog 60 (.agg #[.map none, .bool false, .int .i64 0, .int .i64 0, .int .i64 0]) 5 40 := Sl.zeroT_of zx60
theorem zx62 : (Tryd.prog.info? 62).map (fun i => (i.zero, i.size, i.bytes)) = some (some (.agg #[.string ByteArray.empty, .int .i64 0, .int .i64 0, .int .i64 0]), 4, 40) := by kernel_rfl
theorem zt62 : Sl.zeroT Tryd.prog 62 (.agg #[.string ByteArray.empty, .int .i64 0, .int .i64 0, .int .i64 0]) 4 40 := Sl.zeroT_of zx62
theorem zx80 : (Tryd.prog.info? 80).map (fun i => (i.zero, i.size, i.bytes)) = some (some (.agg #[.pointer none, .string ByteArray.empty, .int .i64 0, .bool false]), 4, 40) := by kernel_rfl
theorem zt80 : Sl.zeroT Tryd.prog 80 (.agg #[.pointer none, .string ByteArray.empty, .int .i64 0, .bool false]) 4 40 := Sl.zeroT_of zx80
theorem zx92 : (Tryd.prog.info? 92).map (fun i => (i.zero, i.size, i.bytes)) = some (some (.pointer none), 1, 8) := by kernel_rfl
theorem zt92 : Sl.zeroT Tryd.prog 92 (.pointer none) 1 8 := Sl.zeroT_of zx92
theorem zx96 : (Tryd.prog.info? 96).map (fun i => (i.zero, i.size, i.bytes)) = some (some (.agg #[.slice none 0 0, .int .i64 0]), 2, 32) := by kernel_rfl
theorem zt96 : Sl.zeroT Tryd.prog 96 (.agg #[.slice none 0 0, .int .i64 0]) 2 32 := Sl.zeroT_of zx96
end Go.Proofs.YthljpljbpbkkcaaDoor
