/-
  Facts on the seat's types and functions, by program.
-/
import Derived.Test.YtbmfcfddbcbdgaaProg
import Derived.Test.YtbmfcfddbcbdgaaSlMore
import Derived.KernelRfl
namespace Go.Proofs.Ytbmfcfddbcbdgaa
open Go.Sl
theorem bt41 : Sl.structT Try.prog 41 = some [(0, 1), (1, 1)] := by kernel_rfl
theorem bt50 : Sl.structT Try.prog 50 = some [(0, 1), (1, 1)] := by kernel_rfl
theorem ct11 : Sl.callT Try.prog 11 = true := by kernel_rfl
theorem ct12 : Sl.callT Try.prog 12 = true := by kernel_rfl
theorem ct13 : Sl.callT Try.prog 13 = true := by kernel_rfl
theorem ct14 : Sl.callT Try.prog 14 = true := by kernel_rfl
theorem ct15 : Sl.callT Try.prog 15 = true := by kernel_rfl
theorem ct16 : Sl.callT Try.prog 16 = true := by kernel_rfl
theorem ct17 : Sl.callT Try.prog 17 = true := by kernel_rfl
theorem ct18 : Sl.callT Try.prog 18 = true := by kernel_rfl
theorem ct19 : Sl.callT Try.prog 19 = true := by kernel_rfl
theorem ct20 : Sl.callT Try.prog 20 = true := by kernel_rfl
theorem ct21 : Sl.callT Try.prog 21 = true := by kernel_rfl
theorem ct22 : Sl.callT Try.prog 22 = true := by kernel_rfl
theorem ct23 : Sl.callT Try.prog 23 = true := by kernel_rfl
theorem ct24 : Sl.callT Try.prog 24 = true := by kernel_rfl
theorem ct25 : Sl.callT Try.prog 25 = true := by kernel_rfl
theorem ct26 : Sl.callT Try.prog 26 = true := by kernel_rfl
theorem ct27 : Sl.callT Try.prog 27 = true := by kernel_rfl
theorem ct28 : Sl.callT Try.prog 28 = true := by kernel_rfl
theorem ct29 : Sl.callT Try.prog 29 = true := by kernel_rfl
theorem fl41f0 : Sl.fieldT Try.prog 41 0 0 = true := by kernel_rfl
theorem fl41f1 : Sl.fieldT Try.prog 41 1 1 = true := by kernel_rfl
theorem fl50f0 : Sl.fieldT Try.prog 50 0 0 = true := by kernel_rfl
theorem fl50f1 : Sl.fieldT Try.prog 50 1 1 = true := by kernel_rfl
theorem is3 : (Try.prog.underlying 3).isSome = true := by kernel_rfl
theorem is5 : (Try.prog.underlying 5).isSome = true := by kernel_rfl
theorem is47 : (Try.prog.underlying 47).isSome = true := by kernel_rfl
theorem pl3 : Sl.plainT Try.prog 3 = true := by kernel_rfl
theorem pl4 : Sl.plainT Try.prog 4 = true := by kernel_rfl
theorem pl5 : Sl.plainT Try.prog 5 = true := by kernel_rfl
theorem pl9 : Sl.plainT Try.prog 9 = true := by kernel_rfl
theorem pl22 : Sl.plainT Try.prog 22 = true := by kernel_rfl
theorem sz3 : Sl.sizeT Try.prog 3 1 = true := by kernel_rfl
theorem sz4 : Sl.sizeT Try.prog 4 1 = true := by kernel_rfl
theorem sz5 : Sl.sizeT Try.prog 5 1 = true := by kernel_rfl
theorem sz9 : Sl.sizeT Try.prog 9 1 = true := by kernel_rfl
theorem sz22 : Sl.sizeT Try.prog 22 1 = true := by kernel_rfl
theorem zx5 : (Try.prog.info? 5).map (fun i => (i.zero, i.size, i.bytes)) = some (some (.int .u8 0), 1, 1) := by kernel_rfl
theorem zt5 : Sl.zeroT Try.prog 5 (.int .u8 0) 1 1 := Sl.zeroT_of zx5
theorem zx41 : (Try.prog.info? 41).map (fun i => (i.zero, i.size, i.bytes)) = some (some (.agg #[.slice none 0 0, .bool false]), 2, 32) := by kernel_rfl
theorem zt41 : Sl.zeroT Try.prog 41 (.agg #[.slice none 0 0, .bool false]) 2 32 := Sl.zeroT_of zx41
theorem zx50 : (Try.prog.info? 50).map (fun i => (i.zero, i.size, i.bytes)) = some (some (.agg #[.slice none 0 0, .bool false]), 2, 32) := by kernel_rfl
theorem zt50 : Sl.zeroT Try.prog 50 (.agg #[.slice none 0 0, .bool false]) 2 32 := Sl.zeroT_of zx50
end Go.Proofs.Ytbmfcfddbcbdgaa
