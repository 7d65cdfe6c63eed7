/-
  Facts on the seat's types and functions, by program.
-/
import Derived.Test.YtijbgeboaakmmaaProg
import Derived.Test.YtijbgeboaakmmaaSlMore
import Derived.KernelRfl
namespace Go.Proofs.Ytijbgeboaakmmaa
open Go.Sl
theorem ag48 : Sl.aggT Try.prog 48 = true := by kernel_rfl
theorem bt45 : Sl.structT Try.prog 45 = some [(0, 1), (1, 1), (2, 1), (3, 1), (4, 1)] := by kernel_rfl
theorem bt48 : Sl.structT Try.prog 48 = some [(0, 1), (1, 1), (2, 1), (3, 1), (4, 1)] := by kernel_rfl
theorem bt51 : Sl.structT Try.prog 51 = some [(0, 1), (1, 1), (2, 1)] := by kernel_rfl
theorem bt59 : Sl.structT Try.prog 59 = some [(0, 1), (1, 1), (2, 1), (3, 1), (4, 1)] := by kernel_rfl
theorem bt62 : Sl.structT Try.prog 62 = some [(0, 1), (1, 1)] := by kernel_rfl
theorem ct9 : Sl.callT Try.prog 9 = true := by kernel_rfl
theorem ct10 : Sl.callT Try.prog 10 = true := by kernel_rfl
theorem ct11 : Sl.callT Try.prog 11 = true := by kernel_rfl
theorem ct12 : Sl.callT Try.prog 12 = true := by kernel_rfl
theorem ct13 : Sl.callT Try.prog 13 = true := by kernel_rfl
theorem ct14 : Sl.callT Try.prog 14 = true := by kernel_rfl
theorem ct15 : Sl.callT Try.prog 15 = true := by kernel_rfl
theorem ct16 : Sl.callT Try.prog 16 = true := by kernel_rfl
theorem ct17 : Sl.callT Try.prog 17 = true := by kernel_rfl
theorem ct18 : Sl.callT Try.prog 18 = true := by kernel_rfl
theorem ct19 : Sl.callT Try.prog 19 = true := by kernel_rfl
theorem ct20 : Sl.callT Try.prog 20 = true := by kernel_rfl
theorem ct21 : Sl.callT Try.prog 21 = true := by kernel_rfl
theorem ct22 : Sl.callT Try.prog 22 = true := by kernel_rfl
theorem ct23 : Sl.callT Try.prog 23 = true := by kernel_rfl
theorem ct24 : Sl.callT Try.prog 24 = true := by kernel_rfl
theorem ct25 : Sl.callT Try.prog 25 = true := by kernel_rfl
theorem ct26 : Sl.callT Try.prog 26 = true := by kernel_rfl
theorem ct27 : Sl.callT Try.prog 27 = true := by kernel_rfl
theorem ct28 : Sl.callT Try.prog 28 = true := by kernel_rfl
theorem ct29 : Sl.callT Try.prog 29 = true := by kernel_rfl
theorem ct30 : Sl.callT Try.prog 30 = true := by kernel_rfl
theorem ct31 : Sl.callT Try.prog 31 = true := by kernel_rfl
theorem ct32 : Sl.callT Try.prog 32 = true := by kernel_rfl
theorem ct33 : Sl.callT Try.prog 33 = true := by kernel_rfl
theorem ct34 : Sl.callT Try.prog 34 = true := by kernel_rfl
theorem ct35 : Sl.callT Try.prog 35 = true := by kernel_rfl
theorem ct36 : Sl.callT Try.prog 36 = true := by kernel_rfl
theorem ct37 : Sl.callT Try.prog 37 = true := by kernel_rfl
theorem ct38 : Sl.callT Try.prog 38 = true := by kernel_rfl
theorem ct39 : Sl.callT Try.prog 39 = true := by kernel_rfl
theorem ct40 : Sl.callT Try.prog 40 = true := by kernel_rfl
theorem ct44 : Sl.callT Try.prog 44 = true := by kernel_rfl
theorem ct45 : Sl.callT Try.prog 45 = true := by kernel_rfl
theorem fl45f0 : Sl.fieldT Try.prog 45 0 0 = true := by kernel_rfl
theorem fl45f1 : Sl.fieldT Try.prog 45 1 1 = true := by kernel_rfl
theorem fl45f2 : Sl.fieldT Try.prog 45 2 2 = true := by kernel_rfl
theorem fl45f3 : Sl.fieldT Try.prog 45 3 3 = true := by kernel_rfl
theorem fl45f4 : Sl.fieldT Try.prog 45 4 4 = true := by kernel_rfl
theorem fl48f0 : Sl.fieldT Try.prog 48 0 0 = true := by kernel_rfl
theorem fl48f1 : Sl.fieldT Try.prog 48 1 1 = true := by kernel_rfl
theorem fl48f2 : Sl.fieldT Try.prog 48 2 2 = true := by kernel_rfl
theorem fl48f3 : Sl.fieldT Try.prog 48 3 3 = true := by kernel_rfl
theorem fl48f4 : Sl.fieldT Try.prog 48 4 4 = true := by kernel_rfl
theorem fl51f0 : Sl.fieldT Try.prog 51 0 0 = true := by kernel_rfl
theorem fl51f1 : Sl.fieldT Try.prog 51 1 1 = true := by kernel_rfl
theorem fl51f2 : Sl.fieldT Try.prog 51 2 2 = true := by kernel_rfl
theorem fl59f0 : Sl.fieldT Try.prog 59 0 0 = true := by kernel_rfl
theorem fl59f1 : Sl.fieldT Try.prog 59 1 1 = true := by kernel_rfl
theorem fl59f2 : Sl.fieldT Try.prog 59 2 2 = true := by kernel_rfl
theorem fl59f3 : Sl.fieldT Try.prog 59 3 3 = true := by kernel_rfl
theorem fl59f4 : Sl.fieldT Try.prog 59 4 4 = true := by kernel_rfl
theorem fl62f0 : Sl.fieldT Try.prog 62 0 0 = true := by kernel_rfl
theorem fl62f1 : Sl.fieldT Try.prog 62 1 1 = true := by kernel_rfl
theorem pl3 : Sl.plainT Try.prog 3 = true := by kernel_rfl
theorem pl4 : Sl.plainT Try.prog 4 = true := by kernel_rfl
theorem pl5 : Sl.plainT Try.prog 5 = true := by kernel_rfl
theorem pl9 : Sl.plainT Try.prog 9 = true := by kernel_rfl
theorem pl25 : Sl.plainT Try.prog 25 = true := by kernel_rfl
theorem pl27 : Sl.plainT Try.prog 27 = true := by kernel_rfl
theorem pl43 : Sl.plainT Try.prog 43 = true := by kernel_rfl
theorem pl57 : Sl.plainT Try.prog 57 = true := by kernel_rfl
theorem pl60 : Sl.plainT Try.prog 60 = true := by kernel_rfl
theorem sz3 : Sl.sizeT Try.prog 3 1 = true := by kernel_rfl
theorem sz4 : Sl.sizeT Try.prog 4 1 = true := by kernel_rfl
theorem sz5 : Sl.sizeT Try.prog 5 1 = true := by kernel_rfl
theorem sz9 : Sl.sizeT Try.prog 9 1 = true := by kernel_rfl
theorem sz27 : Sl.sizeT Try.prog 27 1 = true := by kernel_rfl
theorem sz43 : Sl.sizeT Try.prog 43 1 = true := by kernel_rfl
theorem sz48 : Sl.sizeT Try.prog 48 5 = true := by kernel_rfl
theorem sz51 : Sl.sizeT Try.prog 51 3 = true := by kernel_rfl
theorem sz60 : Sl.sizeT Try.prog 60 1 = true := by kernel_rfl
theorem zx5 : (Try.prog.info? 5).map (fun i => (i.zero, i.size, i.bytes)) = some (some (.int .u8 0), 1, 1) := by kernel_rfl
theorem zt5 : Sl.zeroT Try.prog 5 (.int .u8 0) 1 1 := Sl.zeroT_of zx5
theorem zx9 : (Try.prog.info? 9).map (fun i => (i.zero, i.size, i.bytes)) = some (some (.string ByteArray.empty), 1, 16) := by kernel_rfl
theorem zt9 : Sl.zeroT Try.prog 9 (.string ByteArray.empty) 1 16 := Sl.zeroT_of zx9
theorem zx45 : (Try.prog.info? 45).map (fun i => (i.zero, i.size, i.bytes)) = some (some (.agg #[.slice none 0 0, .bool false, .int .i64 0, .int .i64 0, .int .i64 0]), 5, 56) := by kernel_rfl
theorem zt45 : Sl.zeroT Try.prog 45 (.agg #[.slice none 0 0, .bool false, .int .i64 0, .int .i64 0, .int .i64 0]) 5 56 := Sl.zeroT_of zx45
theorem zx48 : (Try.prog.info? 48).map (fun i => (i.zero, i.size, i.bytes)) = some (some (.agg #[.int .i64 0, .string ByteArray.empty, .slice none 0 0, .int .i64 0, .int .i64 0]), 5, 64) := by kernel_rfl
theorem zt48 : Sl.zeroT Try.prog 48 (.agg #[.int .i64 0, .string ByteArray.empty, .slice none 0 0, .int .i64 0, .int .i64 0]) 5 64 := Sl.zeroT_of zx48
theorem zx51 : (Try.prog.info? 51).map (fun i => (i.zero, i.size, i.bytes)) = some (some (.agg #[.string ByteArray.empty, .slice none 0 0, .int .i64 0]), 3, 48) := by kernel_rfl
theorem zt51 : Sl.zeroT Try.prog 51 (.agg #[.string ByteArray.empty, .slice none 0 0, .int .i64 0]) 3 48 := Sl.zeroT_of zx51
theorem zx59 : (Try.prog.info? 59).map (fun i => (i.zero, i.size, i.bytes)) = some (some (.agg #[.map none, .bool false, .int .i64 0, .int .i64 0, .int .i64 0]), 5, 40) := by kernel_rfl
theorem zt59 : Sl.zeroT Try.prog 59 (.agg #[.map none, .bool false, .int .i64 0, .int .i64 0, .int .i64 0]) 5 40 := Sl.zeroT_of zx59
theorem zx60 : (Try.prog.info? 60).map (fun i => (i.zero, i.size, i.bytes)) = some (some (.pointer none), 1, 8) := by kernel_rfl
theorem zt60 : Sl.zeroT Try.prog 60 (.pointer none) 1 8 := Sl.zeroT_of zx60
theorem zx62 : (Try.prog.info? 62).map (fun i => (i.zero, i.size, i.bytes)) = some (some (.agg #[.slice none 0 0, .int .i64 0]), 2, 32) := by kernel_rfl
theorem zt62 : Sl.zeroT Try.prog 62 (.agg #[.slice none 0 0, .int .i64 0]) 2 32 := Sl.zeroT_of zx62
end Go.Proofs.Ytijbgeboaakmmaa
