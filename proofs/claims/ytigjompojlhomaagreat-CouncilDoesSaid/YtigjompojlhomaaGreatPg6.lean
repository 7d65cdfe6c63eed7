/-
  Texts one behind the other: CouncilRefJ, CouncilRefK, CouncilRefL, CouncilAwake, CouncilLawA, CouncilLawB, CouncilDoes.
-/
import Derived.Test.YtigjompojlhomaaGreatPg5
section
set_option linter.unusedVariables false
set_option linter.unusedSimpArgs false
set_option maxRecDepth 4000
namespace Go.Proofs.YtigjompojlhomaaGreat
open Go.Sl Go.RowKit Go.Raft Go.Journal Go.Pack Go.Council
variable {w0 : World} {A : List HProp}
theorem r_do_man {p M : Nat} {S S' : CS} {k i n keep : Int} (hk : k = 1 ∨ k = 5 ∨ k = 6 ∨ k = 7) (hi : 1 ≤ i ∧ i ≤ S.ms.length) (hml : S.mails.length ≤ 256)
  (hman : ∀ B, Fun Tryz.prog w0 30 [.pointer (some ⟨p, 0, none⟩), .agg #[.int .i64 k, .int .i64 i, .int .i64 n, .int .i64 keep]] (rc M p S :: B) (Ru w0 (.tuple #[]) (rc (M + 1) p S' :: B))) :
  Fun Tryz.prog w0 11 [.pointer (some ⟨p, 0, none⟩), .agg #[.int .i64 k, .int .i64 i, .int .i64 n, .int .i64 keep]] (rc M p S :: A) (Ru w0 (.int .i64 0) (rc (M + 1) p S' :: A)) := by
 refine Fun.ex (fun w h => rc_open h) ?_
 intro b hcw
 have hbl := hcw.len.1
 have hbm := hcw.len.2
 refine Fun.enter Tryz.func11 rfl Tryz.ntmps11 rfl ?_
 refine wS $ wR $ bxc (v := .agg _) (cs := [.int _ _, .int _ _, .int _ _, .int _ _]) rfl rfl fun b1 => yI rfl $ wN $ tN $ ?_
 refine WC.cutS [(5, .bool (decide (True)))] [(0, .pointer _), (3, .pointer _)] ⟨rfl, rfl, trivial⟩ ?_ fun ρh => ?_
 ·
  refine WC.draws rfl (by kernel_rfl) $ qv (vfldp fl32f1 rfl) $ qv (vldc pl3 rfl) $ qvs (vge rfl rfl) (fun q1 => ?_) (fun q1 => ?_)
  ·
   exact qv (vmB rfl) $ qvg rfl (vfldp fl32f1 rfl) $ qvg rfl (vldc pl3 rfl) $ qvg rfl (vmP rfl) $ qvg rfl (vnil rfl) $ qvg rfl (vfldpz fl59f0 rfl) $ qvg rfl (vldc pl57 rfl) $ qvg rfl (vlen Tryz.underlying57 rfl) $ qvg rfl (vle rfl rfl) $ qv (vpkt rfl) $ qv (vaB rfl) $ WQ.nil $ xM () trivial ⟨bI ⟨fun _ => trivial, fun _ => by omega⟩, trivial⟩ ⟨rfl, rfl, trivial⟩ ow
  ·
   exact qv (vmB rfl) $ qng rfl $ qng rfl $ qng rfl $ qng rfl $ qng rfl $ qng rfl $ qng rfl $ qng rfl $ qv (vpkf rfl) $ qv (vaB rfl) $ WQ.nil $ xM () trivial ⟨bFa, trivial⟩ ⟨rfl, rfl, trivial⟩ ow
 refine WC.cutS [(6, .bool (decide (0 ≤ n ∧ n < (b.ms.length : Int))))] [(0, .pointer _), (3, .pointer _), (5, .bool _)] ⟨rfl, rfl, rfl, trivial⟩ ?_ fun ρh => ?_
 ·
  refine WC.draws rfl (by kernel_rfl) $ qv (vfldp fl32f2 rfl) $ qv (vldc pl3 rfl) $ qvs (vge rfl rfl) (fun q2 => ?_) (fun q2 => ?_)
  ·
   exact qv (vmB rfl) $ qvg rfl (vfldp fl32f2 rfl) $ qvg rfl (vldc pl3 rfl) $ qvg rfl (vmP rfl) $ qvg rfl (vnil rfl) $ qvg rfl (vfldp fl59f1 rfl) $ qvg rfl (vldc pl41 rfl) $ qvg rfl (vlen Tryz.underlying41 rfl) $ qvg rfl (vlt rfl rfl) $ qv (vpkt rfl) $ qv (vaB rfl) $ WQ.nil $ xM () trivial ⟨bIa, trivial⟩ ⟨rfl, rfl, rfl, trivial⟩ ow
  ·
   exact qv (vmB rfl) $ qng rfl $ qng rfl $ qng rfl $ qng rfl $ qng rfl $ qng rfl $ qng rfl $ qng rfl $ qv (vpkf rfl) $ qv (vaB rfl) $ WQ.nil $ xM () trivial ⟨bFa, trivial⟩ ⟨rfl, rfl, rfl, trivial⟩ ow
 refine wS $ wS $ wR $ sv (vfldpz fl32f0 rfl) $ sv (vldc pl3 rfl) $ wN $ tN $ WC.block $ ?_
 refine WC.cutvS (ι := Unit) (fun i => [(37, .bool true)]) [(0, .pointer _), (3, .pointer _), (5, .bool _), (6, .bool _), (36, .int _ _)] (fun i => True) ⟨rfl, rfl, rfl, rfl, rfl, trivial⟩ ?_ ?_
 ·
  refine wS $ wR $ sv (veq rfl rfl) $ yB rfl $ wN $ tN $ ?_
  refine WC.ite rfl (fun h1 => ?_) (fun h1 => ?_)
  ·
   exact WC.skip $ xM (()) (trivial) ⟨(bT (by omega)).symm, trivial⟩ ⟨rfl, rfl, rfl, rfl, rfl, trivial⟩ ow
  ·
   refine wS $ wR $ sv (veq rfl rfl) $ yB rfl $ wN $ tN $ ?_
   refine WC.ite rfl (fun h2 => ?_) (fun h2 => ?_)
   ·
    exact WC.skip $ xM (()) (trivial) ⟨(bT (by omega)).symm, trivial⟩ ⟨rfl, rfl, rfl, rfl, rfl, trivial⟩ ow
   ·
    refine wS $ wR $ sv (veq rfl rfl) $ yB rfl $ wN $ tN $ ?_
    refine WC.ite rfl (fun h3 => ?_) (fun h3 => ?_)
    ·
     exact WC.skip $ xM (()) (trivial) ⟨(bT (by omega)).symm, trivial⟩ ⟨rfl, rfl, rfl, rfl, rfl, trivial⟩ ow
    ·
     exact wR $ sv (veq rfl rfl) $ yB rfl $ wN $ xM (()) (trivial) ⟨(bT (by omega)).symm, trivial⟩ ⟨rfl, rfl, rfl, rfl, rfl, trivial⟩ ow
 ·
  intro i hi ρh
  refine WC.tt rfl ?_
  refine wS $ wS $ wR $ zB rfl $ sv (vnot rfl) $ wN $ tN $ ?_
  refine WC.ff rfl ?_
  refine WC.skip $ tN $ wR $ zP rfl $ sv (vldac ag32 sz32 rfl rfl (by decide)) $ pm (fun _ h => rc_mk (A := A) hcw (Sb.o h)) $ clxo (hman A) ct30 rfl fun r10 hr10 => ?_
  exact wN $ WX.blockN $ tN $ wS $ wR $ yI rfl $ wN $ tN $ WC.ret $ xR rfl (()) (trivial) rfl ow
theorem r_do_place {p M : Nat} {S : CS} {k i n keep : Int} (hk : k = 2 ∨ k = 3 ∨ k = 4) (hn : ¬ (0 ≤ n ∧ n < S.mails.length)) :
  Fun Tryz.prog w0 11 [.pointer (some ⟨p, 0, none⟩), .agg #[.int .i64 k, .int .i64 i, .int .i64 n, .int .i64 keep]] (rc M p S :: A) (Ru w0 (.int .i64 1) (rc (M + 1) p S :: A)) := by
 refine Fun.ex (fun w h => rc_open h) ?_
 intro b hcw
 have hbl := hcw.len.1
 have hbm := hcw.len.2
 refine Fun.enter Tryz.func11 rfl Tryz.ntmps11 rfl ?_
 refine wS $ wR $ bxc (v := .agg _) (cs := [.int _ _, .int _ _, .int _ _, .int _ _]) rfl rfl fun b1 => yI rfl $ wN $ tN $ ?_
 refine WC.cutS [(5, .bool (decide (1 ≤ i ∧ i ≤ (b.l.length : Int))))] [(0, .pointer _), (3, .pointer _)] ⟨rfl, rfl, trivial⟩ ?_ fun ρh => ?_
 ·
  refine WC.draws rfl (by kernel_rfl) $ qv (vfldp fl32f1 rfl) $ qv (vldc pl3 rfl) $ qvs (vge rfl rfl) (fun q1 => ?_) (fun q1 => ?_)
  ·
   exact qv (vmB rfl) $ qvg rfl (vfldp fl32f1 rfl) $ qvg rfl (vldc pl3 rfl) $ qvg rfl (vmP rfl) $ qvg rfl (vnil rfl) $ qvg rfl (vfldpz fl59f0 rfl) $ qvg rfl (vldc pl57 rfl) $ qvg rfl (vlen Tryz.underlying57 rfl) $ qvg rfl (vle rfl rfl) $ qv (vpkt rfl) $ qv (vaB rfl) $ WQ.nil $ xM () trivial ⟨bIa, trivial⟩ ⟨rfl, rfl, trivial⟩ ow
  ·
   exact qv (vmB rfl) $ qng rfl $ qng rfl $ qng rfl $ qng rfl $ qng rfl $ qng rfl $ qng rfl $ qng rfl $ qv (vpkf rfl) $ qv (vaB rfl) $ WQ.nil $ xM () trivial ⟨bFa, trivial⟩ ⟨rfl, rfl, trivial⟩ ow
 refine WC.cutS [(6, .bool (decide (False)))] [(0, .pointer _), (3, .pointer _), (5, .bool _)] ⟨rfl, rfl, rfl, trivial⟩ ?_ fun ρh => ?_
 ·
  refine WC.draws rfl (by kernel_rfl) $ qv (vfldp fl32f2 rfl) $ qv (vldc pl3 rfl) $ qvs (vge rfl rfl) (fun q2 => ?_) (fun q2 => ?_)
  ·
   exact qv (vmB rfl) $ qvg rfl (vfldp fl32f2 rfl) $ qvg rfl (vldc pl3 rfl) $ qvg rfl (vmP rfl) $ qvg rfl (vnil rfl) $ qvg rfl (vfldp fl59f1 rfl) $ qvg rfl (vldc pl41 rfl) $ qvg rfl (vlen Tryz.underlying41 rfl) $ qvg rfl (vlt rfl rfl) $ qv (vpkt rfl) $ qv (vaB rfl) $ WQ.nil $ xM () trivial ⟨bI ⟨fun h => by omega, False.elim⟩, trivial⟩ ⟨rfl, rfl, rfl, trivial⟩ ow
  ·
   exact qv (vmB rfl) $ qng rfl $ qng rfl $ qng rfl $ qng rfl $ qng rfl $ qng rfl $ qng rfl $ qng rfl $ qv (vpkf rfl) $ qv (vaB rfl) $ WQ.nil $ xM () trivial ⟨bFa, trivial⟩ ⟨rfl, rfl, rfl, trivial⟩ ow
 refine wS $ wS $ wR $ sv (vfldpz fl32f0 rfl) $ sv (vldc pl3 rfl) $ wN $ tN $ WC.block $ ?_
 refine WC.cutvS (ι := Unit) (fun i => [(37, .bool false)]) [(0, .pointer _), (3, .pointer _), (5, .bool _), (6, .bool _), (36, .int _ _)] (fun i => True) ⟨rfl, rfl, rfl, rfl, rfl, trivial⟩ ?_ ?_
 ·
  refine wS $ wR $ sv (veq rfl rfl) $ yB rfl $ wN $ tN $ ?_
  refine WC.ite rfl (fun h1 => ?_) (fun h1 => ?_)
  ·
   exact WC.skip $ xM (()) (trivial) ⟨(bF (by omega)).symm, trivial⟩ ⟨rfl, rfl, rfl, rfl, rfl, trivial⟩ ow
  ·
   refine wS $ wR $ sv (veq rfl rfl) $ yB rfl $ wN $ tN $ ?_
   refine WC.ite rfl (fun h2 => ?_) (fun h2 => ?_)
   ·
    exact WC.skip $ xM (()) (trivial) ⟨(bF (by omega)).symm, trivial⟩ ⟨rfl, rfl, rfl, rfl, rfl, trivial⟩ ow
   ·
    refine wS $ wR $ sv (veq rfl rfl) $ yB rfl $ wN $ tN $ ?_
    refine WC.ite rfl (fun h3 => ?_) (fun h3 => ?_)
    ·
     exact WC.skip $ xM (()) (trivial) ⟨(bF (by omega)).symm, trivial⟩ ⟨rfl, rfl, rfl, rfl, rfl, trivial⟩ ow
    ·
     exact wR $ sv (veq rfl rfl) $ yB rfl $ wN $ xM (()) (trivial) ⟨(bF (by omega)).symm, trivial⟩ ⟨rfl, rfl, rfl, rfl, rfl, trivial⟩ ow
 ·
  intro i hi ρh
  refine WC.ff rfl ?_
  refine WC.cutvS (ι := Unit) (fun i => [(47, .bool true)]) [(0, .pointer _), (3, .pointer _), (6, .bool _)] (fun i => True) ⟨rfl, rfl, rfl, trivial⟩ ?_ ?_
  ·
   refine wS $ wR $ sv (veq rfl rfl) $ yB rfl $ wN $ tN $ ?_
   refine WC.ite rfl (fun h5 => ?_) (fun h5 => ?_)
   ·
    exact WC.skip $ xM (()) (trivial) ⟨(bT (by omega)).symm, trivial⟩ ⟨rfl, rfl, rfl, trivial⟩ ow
   ·
    refine wS $ wR $ sv (veq rfl rfl) $ yB rfl $ wN $ tN $ ?_
    refine WC.ite rfl (fun h6 => ?_) (fun h6 => ?_)
    ·
     exact WC.skip $ xM (()) (trivial) ⟨(bT (by omega)).symm, trivial⟩ ⟨rfl, rfl, rfl, trivial⟩ ow
    ·
     exact wR $ sv (veq rfl rfl) $ yB rfl $ wN $ xM (()) (trivial) ⟨(bT (by omega)).symm, trivial⟩ ⟨rfl, rfl, rfl, trivial⟩ ow
  ·
   intro i hi ρh
   refine WC.tt rfl ?_
   refine wS $ wS $ wR $ zB rfl $ sv (vnot rfl) $ wN $ tN $ ?_
   refine WC.tt rfl ?_
   exact wS $ wR $ yI rfl $ wN $ tN $ WC.ret $ tR $ WX.blockR $ tR $ xR rfl (()) (trivial) rfl (fun w h => rc_mk hcw (rL_up (Sb.o h)))
theorem r_do_nomgr {p M : Nat} {S : CS} {k i n keep : Int} (hk : k = 1 ∨ k = 5 ∨ k = 6 ∨ k = 7) (hi : ¬ (1 ≤ i ∧ i ≤ S.ms.length)) :
  Fun Tryz.prog w0 11 [.pointer (some ⟨p, 0, none⟩), .agg #[.int .i64 k, .int .i64 i, .int .i64 n, .int .i64 keep]] (rc M p S :: A) (Ru w0 (.int .i64 1) (rc (M + 1) p S :: A)) := by
 refine Fun.ex (fun w h => rc_open h) ?_
 intro b hcw
 have hbl := hcw.len.1
 have hbm := hcw.len.2
 refine Fun.enter Tryz.func11 rfl Tryz.ntmps11 rfl ?_
 refine wS $ wR $ bxc (v := .agg _) (cs := [.int _ _, .int _ _, .int _ _, .int _ _]) rfl rfl fun b1 => yI rfl $ wN $ tN $ ?_
 refine WC.cutS [(5, .bool (decide (False)))] [(0, .pointer _), (3, .pointer _)] ⟨rfl, rfl, trivial⟩ ?_ fun ρh => ?_
 ·
  refine WC.draws rfl (by kernel_rfl) $ qv (vfldp fl32f1 rfl) $ qv (vldc pl3 rfl) $ qvs (vge rfl rfl) (fun q1 => ?_) (fun q1 => ?_)
  ·
   exact qv (vmB rfl) $ qvg rfl (vfldp fl32f1 rfl) $ qvg rfl (vldc pl3 rfl) $ qvg rfl (vmP rfl) $ qvg rfl (vnil rfl) $ qvg rfl (vfldpz fl59f0 rfl) $ qvg rfl (vldc pl57 rfl) $ qvg rfl (vlen Tryz.underlying57 rfl) $ qvg rfl (vle rfl rfl) $ qv (vpkt rfl) $ qv (vaB rfl) $ WQ.nil $ xM () trivial ⟨bI ⟨fun h => by omega, False.elim⟩, trivial⟩ ⟨rfl, rfl, trivial⟩ ow
  ·
   exact qv (vmB rfl) $ qng rfl $ qng rfl $ qng rfl $ qng rfl $ qng rfl $ qng rfl $ qng rfl $ qng rfl $ qv (vpkf rfl) $ qv (vaB rfl) $ WQ.nil $ xM () trivial ⟨bFa, trivial⟩ ⟨rfl, rfl, trivial⟩ ow
 refine WC.cutS [(6, .bool (decide (0 ≤ n ∧ n < (b.ms.length : Int))))] [(0, .pointer _), (3, .pointer _), (5, .bool _)] ⟨rfl, rfl, rfl, trivial⟩ ?_ fun ρh => ?_
 ·
  refine WC.draws rfl (by kernel_rfl) $ qv (vfldp fl32f2 rfl) $ qv (vldc pl3 rfl) $ qvs (vge rfl rfl) (fun q2 => ?_) (fun q2 => ?_)
  ·
   exact qv (vmB rfl) $ qvg rfl (vfldp fl32f2 rfl) $ qvg rfl (vldc pl3 rfl) $ qvg rfl (vmP rfl) $ qvg rfl (vnil rfl) $ qvg rfl (vfldp fl59f1 rfl) $ qvg rfl (vldc pl41 rfl) $ qvg rfl (vlen Tryz.underlying41 rfl) $ qvg rfl (vlt rfl rfl) $ qv (vpkt rfl) $ qv (vaB rfl) $ WQ.nil $ xM () trivial ⟨bIa, trivial⟩ ⟨rfl, rfl, rfl, trivial⟩ ow
  ·
   exact qv (vmB rfl) $ qng rfl $ qng rfl $ qng rfl $ qng rfl $ qng rfl $ qng rfl $ qng rfl $ qng rfl $ qv (vpkf rfl) $ qv (vaB rfl) $ WQ.nil $ xM () trivial ⟨bFa, trivial⟩ ⟨rfl, rfl, rfl, trivial⟩ ow
 refine wS $ wS $ wR $ sv (vfldpz fl32f0 rfl) $ sv (vldc pl3 rfl) $ wN $ tN $ WC.block $ ?_
 refine WC.cutvS (ι := Unit) (fun i => [(37, .bool true)]) [(0, .pointer _), (3, .pointer _), (5, .bool _), (6, .bool _), (36, .int _ _)] (fun i => True) ⟨rfl, rfl, rfl, rfl, rfl, trivial⟩ ?_ ?_
 ·
  refine wS $ wR $ sv (veq rfl rfl) $ yB rfl $ wN $ tN $ ?_
  refine WC.ite rfl (fun h1 => ?_) (fun h1 => ?_)
  ·
   exact WC.skip $ xM (()) (trivial) ⟨(bT (by omega)).symm, trivial⟩ ⟨rfl, rfl, rfl, rfl, rfl, trivial⟩ ow
  ·
   refine wS $ wR $ sv (veq rfl rfl) $ yB rfl $ wN $ tN $ ?_
   refine WC.ite rfl (fun h2 => ?_) (fun h2 => ?_)
   ·
    exact WC.skip $ xM (()) (trivial) ⟨(bT (by omega)).symm, trivial⟩ ⟨rfl, rfl, rfl, rfl, rfl, trivial⟩ ow
   ·
    refine wS $ wR $ sv (veq rfl rfl) $ yB rfl $ wN $ tN $ ?_
    refine WC.ite rfl (fun h3 => ?_) (fun h3 => ?_)
    ·
     exact WC.skip $ xM (()) (trivial) ⟨(bT (by omega)).symm, trivial⟩ ⟨rfl, rfl, rfl, rfl, rfl, trivial⟩ ow
    ·
     exact wR $ sv (veq rfl rfl) $ yB rfl $ wN $ xM (()) (trivial) ⟨(bT (by omega)).symm, trivial⟩ ⟨rfl, rfl, rfl, rfl, rfl, trivial⟩ ow
 ·
  intro i hi ρh
  refine WC.tt rfl ?_
  refine wS $ wS $ wR $ zB rfl $ sv (vnot rfl) $ wN $ tN $ ?_
  refine WC.tt rfl ?_
  exact wS $ wR $ yI rfl $ wN $ tN $ WC.ret $ tR $ WX.blockR $ tR $ xR rfl (()) (trivial) rfl (fun w h => rc_mk hcw (rL_up (Sb.o h)))
theorem r_do_other {p M : Nat} {S : CS} {k i n keep : Int} (hk : k < 1 ∨ 7 < k) :
  Fun Tryz.prog w0 11 [.pointer (some ⟨p, 0, none⟩), .agg #[.int .i64 k, .int .i64 i, .int .i64 n, .int .i64 keep]] (rc M p S :: A) (Ru w0 (.int .i64 1) (rc (M + 1) p S :: A)) := by
 refine Fun.ex (fun w h => rc_open h) ?_
 intro b hcw
 have hbl := hcw.len.1
 have hbm := hcw.len.2
 refine Fun.enter Tryz.func11 rfl Tryz.ntmps11 rfl ?_
 refine wS $ wR $ bxc (v := .agg _) (cs := [.int _ _, .int _ _, .int _ _, .int _ _]) rfl rfl fun b1 => yI rfl $ wN $ tN $ ?_
 refine WC.cutS [(5, .bool (decide (1 ≤ i ∧ i ≤ (b.l.length : Int))))] [(0, .pointer _), (3, .pointer _)] ⟨rfl, rfl, trivial⟩ ?_ fun ρh => ?_
 ·
  refine WC.draws rfl (by kernel_rfl) $ qv (vfldp fl32f1 rfl) $ qv (vldc pl3 rfl) $ qvs (vge rfl rfl) (fun q1 => ?_) (fun q1 => ?_)
  ·
   exact qv (vmB rfl) $ qvg rfl (vfldp fl32f1 rfl) $ qvg rfl (vldc pl3 rfl) $ qvg rfl (vmP rfl) $ qvg rfl (vnil rfl) $ qvg rfl (vfldpz fl59f0 rfl) $ qvg rfl (vldc pl57 rfl) $ qvg rfl (vlen Tryz.underlying57 rfl) $ qvg rfl (vle rfl rfl) $ qv (vpkt rfl) $ qv (vaB rfl) $ WQ.nil $ xM () trivial ⟨bIa, trivial⟩ ⟨rfl, rfl, trivial⟩ ow
  ·
   exact qv (vmB rfl) $ qng rfl $ qng rfl $ qng rfl $ qng rfl $ qng rfl $ qng rfl $ qng rfl $ qng rfl $ qv (vpkf rfl) $ qv (vaB rfl) $ WQ.nil $ xM () trivial ⟨bFa, trivial⟩ ⟨rfl, rfl, trivial⟩ ow
 refine WC.cutS [(6, .bool (decide (0 ≤ n ∧ n < (b.ms.length : Int))))] [(0, .pointer _), (3, .pointer _), (5, .bool _)] ⟨rfl, rfl, rfl, trivial⟩ ?_ fun ρh => ?_
 ·
  refine WC.draws rfl (by kernel_rfl) $ qv (vfldp fl32f2 rfl) $ qv (vldc pl3 rfl) $ qvs (vge rfl rfl) (fun q2 => ?_) (fun q2 => ?_)
  ·
   exact qv (vmB rfl) $ qvg rfl (vfldp fl32f2 rfl) $ qvg rfl (vldc pl3 rfl) $ qvg rfl (vmP rfl) $ qvg rfl (vnil rfl) $ qvg rfl (vfldp fl59f1 rfl) $ qvg rfl (vldc pl41 rfl) $ qvg rfl (vlen Tryz.underlying41 rfl) $ qvg rfl (vlt rfl rfl) $ qv (vpkt rfl) $ qv (vaB rfl) $ WQ.nil $ xM () trivial ⟨bIa, trivial⟩ ⟨rfl, rfl, rfl, trivial⟩ ow
  ·
   exact qv (vmB rfl) $ qng rfl $ qng rfl $ qng rfl $ qng rfl $ qng rfl $ qng rfl $ qng rfl $ qng rfl $ qv (vpkf rfl) $ qv (vaB rfl) $ WQ.nil $ xM () trivial ⟨bFa, trivial⟩ ⟨rfl, rfl, rfl, trivial⟩ ow
 refine wS $ wS $ wR $ sv (vfldpz fl32f0 rfl) $ sv (vldc pl3 rfl) $ wN $ tN $ WC.block $ ?_
 refine WC.cutvS (ι := Unit) (fun i => [(37, .bool false)]) [(0, .pointer _), (3, .pointer _), (5, .bool _), (6, .bool _), (36, .int _ _)] (fun i => True) ⟨rfl, rfl, rfl, rfl, rfl, trivial⟩ ?_ ?_
 ·
  refine wS $ wR $ sv (veq rfl rfl) $ yB rfl $ wN $ tN $ ?_
  refine WC.ite rfl (fun h1 => ?_) (fun h1 => ?_)
  ·
   exact WC.skip $ xM (()) (trivial) ⟨(bF (by omega)).symm, trivial⟩ ⟨rfl, rfl, rfl, rfl, rfl, trivial⟩ ow
  ·
   refine wS $ wR $ sv (veq rfl rfl) $ yB rfl $ wN $ tN $ ?_
   refine WC.ite rfl (fun h2 => ?_) (fun h2 => ?_)
   ·
    exact WC.skip $ xM (()) (trivial) ⟨(bF (by omega)).symm, trivial⟩ ⟨rfl, rfl, rfl, rfl, rfl, trivial⟩ ow
   ·
    refine wS $ wR $ sv (veq rfl rfl) $ yB rfl $ wN $ tN $ ?_
    refine WC.ite rfl (fun h3 => ?_) (fun h3 => ?_)
    ·
     exact WC.skip $ xM (()) (trivial) ⟨(bF (by omega)).symm, trivial⟩ ⟨rfl, rfl, rfl, rfl, rfl, trivial⟩ ow
    ·
     exact wR $ sv (veq rfl rfl) $ yB rfl $ wN $ xM (()) (trivial) ⟨(bF (by omega)).symm, trivial⟩ ⟨rfl, rfl, rfl, rfl, rfl, trivial⟩ ow
 ·
  intro i hi ρh
  refine WC.ff rfl ?_
  refine WC.cutvS (ι := Unit) (fun i => [(47, .bool false)]) [(0, .pointer _), (3, .pointer _), (6, .bool _)] (fun i => True) ⟨rfl, rfl, rfl, trivial⟩ ?_ ?_
  ·
   refine wS $ wR $ sv (veq rfl rfl) $ yB rfl $ wN $ tN $ ?_
   refine WC.ite rfl (fun h5 => ?_) (fun h5 => ?_)
   ·
    exact WC.skip $ xM (()) (trivial) ⟨(bF (by omega)).symm, trivial⟩ ⟨rfl, rfl, rfl, trivial⟩ ow
   ·
    refine wS $ wR $ sv (veq rfl rfl) $ yB rfl $ wN $ tN $ ?_
    refine WC.ite rfl (fun h6 => ?_) (fun h6 => ?_)
    ·
     exact WC.skip $ xM (()) (trivial) ⟨(bF (by omega)).symm, trivial⟩ ⟨rfl, rfl, rfl, trivial⟩ ow
    ·
     exact wR $ sv (veq rfl rfl) $ yB rfl $ wN $ xM (()) (trivial) ⟨(bF (by omega)).symm, trivial⟩ ⟨rfl, rfl, rfl, trivial⟩ ow
  ·
   intro i hi ρh
   refine WC.ff rfl ?_
   exact wS $ wR $ yI rfl $ wN $ tN $ WC.ret $ WX.blockR $ tR $ xR rfl (()) (trivial) rfl (fun w h => rc_mk hcw (rL_up (Sb.o h)))
theorem r_do {p M K : Nat} {S : CS} {k i n keep : Int} (h : CO K S) (hf : Few S) (hK : K ≤ 505) (hM : M + 1 ≤ 1099511627776) (hn : n ≤ 9223372036854775807) :
  Fun Tryz.prog w0 11 [.pointer (some ⟨p, 0, none⟩), .agg #[.int .i64 k, .int .i64 i, .int .i64 n, .int .i64 keep]] (rc M p S :: A) (Ru w0 (.int .i64 (actC k i n keep S).2) (rc (M + 1) p (actC k i n keep S).1 :: A)) := by
 have hcl : ∀ m ∈ S.mails, m.cells.length ≤ 1099511627776 := fun m hm => Nat.le_trans (hf m hm) (by decide)
 by_cases hk : k = 2 ∨ k = 3 ∨ k = 4
 ·by_cases hnm : 0 ≤ n ∧ n < S.mails.length
  ·obtain ⟨j, rfl⟩ : ∃ j : Nat, n = (j : Int) := ⟨n.toNat, by omega⟩
   have hj : j < S.mails.length := by omega
   have e : actC k i j keep S = (if k = 4 then (if k = 3 then S else ⟨S.ms, S.mails.eraseIdx j⟩) else (stepI (S.mails.getD j ⟨0, 0, 0, 0, 0, 0, 0, false, []⟩).to_ (fun x => takeS x (S.mails.getD j ⟨0, 0, 0, 0, 0, 0, 0, false, []⟩)) (if k = 3 then S else ⟨S.ms, S.mails.eraseIdx j⟩)).1, 0) := by
    unfold actC
    rw [if_pos hk, if_pos hnm, Int.toNat_natCast]
    dsimp only
    rw [stepI_fst]
   rw [e]
   rcases hk with rfl | rfl | rfl
   ·rw [if_neg (by decide), if_neg (by decide)]; exact r_do_mail h hK hM hj hcl
   ·rw [if_neg (by decide), if_pos rfl]; exact r_do_twice h hK hM hj hcl
   ·rw [if_pos rfl, if_neg (by decide)]; exact r_do_lose h hK hM hj hcl
  ·have e : actC k i n keep S = (S, 1) := by unfold actC; rw [if_pos hk, if_neg hnm]
   rw [e]
   exact r_do_place hk hnm
 ·by_cases hi : 1 ≤ i ∧ i ≤ S.ms.length
  ·obtain ⟨j, rfl⟩ : ∃ j : Nat, i = (j : Int) + 1 := ⟨(i - 1).toNat, by omega⟩
   have hjl : j < S.ms.length := by omega
   obtain ⟨m, hm⟩ : ∃ m, S.ms[j]? = some m := ⟨_, List.getElem?_eq_getElem hjl⟩
   have e : actC k ((j : Int) + 1) n keep S = if k = 1 then ((Go.Council.stepC j tickS S).1, 0) else if k = 5 then (putM S j ⟨{ m.st with fuse := max n 0, keep := keep }, m.node, m.rs⟩, 0) else if k = 6 then (putM S j ⟨offS keep m.st, none, m.rs⟩, 0) else if k = 7 then (if m.node.isNone = true then putM S j (openM ((j : Int) + 1) S.ms.length ⟨{ m.st with off := false }, none, m.rs⟩) else S, 0) else (S, 1) := by
    unfold actC
    rw [if_neg hk, if_pos hi, show ((j : Int) + 1 - 1).toNat = j by omega, hm]
   rw [e]
   by_cases h1 : k = 1
   ·subst h1
    rw [if_pos rfl]
    refine r_do_man (.inl rfl) hi h.mails fun B => ?_
    cases hx : m.node with
    | none =>
     have e : Go.Council.stepC j tickS S = (S, false) := by unfold Go.Council.stepC; rw [hm]; dsimp only; rw [hx]
     rw [e]
     exact r_man_tick_nil h.n.2 hm hx
    | some x => exact r_man_tick h hK hM hm hx
   ·rw [if_neg h1]
    by_cases h5 : k = 5
    ·subst h5; rw [if_pos rfl]; exact r_do_man (.inr (.inl rfl)) hi h.mails fun B => r_man_arm h.n.2 hm hn
    ·rw [if_neg h5]
     by_cases h6 : k = 6
     ·subst h6; rw [if_pos rfl]; exact r_do_man (.inr (.inr (.inl rfl))) hi h.mails fun B => r_man_off h.n.2 hm
     ·rw [if_neg h6]
      by_cases h7 : k = 7
      ·subst h7
       rw [if_pos rfl]
       cases hx : m.node with
       | none =>
        rw [if_pos (show (none : Option Rn).isNone = true from rfl)]
        refine r_do_man (.inr (.inr (.inr rfl))) hi h.mails fun B => ?_
        obtain ⟨st', er, hso⟩ : ∃ st' er, openS lnm { m.st with off := false } = (st', er) := ⟨_, _, rfl⟩
        by_cases her : er = 0
        ·subst her
         have hom : openM ((j : Int) + 1) S.ms.length ⟨{ m.st with off := false }, none, m.rs⟩ = ⟨st', some (newR ((j : Int) + 1) S.ms.length (stab m.rs).term (stab m.rs).vote (stab m.rs).log), m.rs⟩ := by unfold openM; dsimp only; rw [hso, if_pos rfl]
         rw [hom]
         exact r_man_on_ok h hK (by omega) hm hx hso
        ·have hom : openM ((j : Int) + 1) S.ms.length ⟨{ m.st with off := false }, none, m.rs⟩ = ⟨st', none, m.rs⟩ := by unfold openM; dsimp only; rw [hso, if_neg her]
         rw [hom]
         exact r_man_on_bad h hK (by omega) hm hx her hso
       | some x =>
        rw [if_neg (show ¬ (some x).isNone = true from fun h => by cases h)]
        exact r_do_man (.inr (.inr (.inr rfl))) hi h.mails fun B => r_man_on_up h.n.2 hm hx
      ·rw [if_neg h7]
       exact r_do_other (by omega)
  ·have e : actC k i n keep S = (S, 1) := by unfold actC; rw [if_neg hk, if_neg hi]
   rw [e]
   by_cases hk2 : k = 1 ∨ k = 5 ∨ k = 6 ∨ k = 7
   ·exact r_do_nomgr hk2 hi
   ·exact r_do_other (by omega)
theorem r_propose {p M K : Nat} {S : CS} {i : Int} {d : ByteArray} (h : CO K S) (hK : K ≤ 505) (hM : M + 1 ≤ 1099511627776) : Fun Tryz.prog w0 9 [.pointer (some ⟨p, 0, none⟩), .int .i64 i, .string d] (rc M p S :: A) (Ru w0 (.tuple #[.int .i64 (propC i d S).2.1, .int .i64 (propC i d S).2.2]) (rc (M + 1) p (propC i d S).1 :: A)) := by
 unfold propC
 by_cases ha : i < 1 ∨ (S.ms.length : Int) < i ∨ d.size = 0 ∨ 4096 < d.size
 ·rw [if_pos ha]
  exact r_prop_arg ha
 ·rw [if_neg ha]
  obtain ⟨j, rfl⟩ : ∃ j : Nat, i = (j : Int) + 1 := ⟨(i - 1).toNat, by omega⟩
  obtain ⟨m, hm⟩ : ∃ m, S.ms[j]? = some m := ⟨_, List.getElem?_eq_getElem (by omega)⟩
  rw [show ((j : Int) + 1 - 1).toNat = j by omega, hm]
  dsimp only
  cases hx : m.node with
  | none => exact r_prop_down h.n.2 hm hx ⟨by omega, by omega⟩
  | some x =>
   dsimp only
   by_cases he : proposeE x d = 0
   ·rw [if_neg (fun e => e he)]
    have hp : d.size ≠ 0 ∧ d.size ≤ 4096 ∧ x.role = 2 ∧ x.log.length < 10000 := by
     have h2 := he
     unfold proposeE at h2
     split at h2
     ·cases h2
     ·split at h2
      ·cases h2
      ·split at h2
       ·cases h2
       ·omega
    have hl : ((proposeS x d).1.log.length : Int) = (x.log.length : Int) + 1 := by
     have : (proposeS x d).1.log = x.log ++ [⟨x.term, d⟩] := rfl
     rw [this, List.length_append]; rfl
    have hu := r_prop_up (w0 := w0) (A := A) (p := p) (d := d) h hK hM hm hx ⟨by omega, by omega⟩ he ⟨hp.2.2.1, hp.2.2.2⟩
    by_cases hs : (Go.Council.stepC j (fun x => proposeS x d) S).2 = true
    ·rw [if_pos hs]
     rw [hs, if_pos rfl, if_pos rfl] at hu
     rw [hl]
     exact hu
    ·rw [if_neg hs]
     rw [if_neg hs, if_neg hs] at hu
     exact hu
   ·rw [if_pos he]
    exact r_prop_err h hm hx ⟨by omega, by omega⟩ he
theorem rdisk_newC {w0 w : World} {A : List HProp} {r : Nat} (h : Own w0 (cel r [.slice none 0 0, .bool false, .int .i64 0, .int .i64 0, .int .i64 0] 64 :: A) w) : Own w0 (rdisk r 0 newD :: A) w :=
 rdisk_mk (l := []) (base := none) (c := 0) RRep.new ⟨Nat.le_refl _, Nat.le_refl _⟩ ((Own.intro_row_nil (Own.intro_emp h)).ix [2, 0, 1])
theorem rnew_step {w0 w : World} {A : List HProp} {l : List ME} {p q d c np jp n : Nat} {b : Option Addr} (H : Own w0 (row b c 1 60 (nptrC (l.map ME.q) ++ [.pointer (some ⟨q, 0, none⟩)]) :: cel p [.slice b (l.length + 1) c, .slice none 0 0] 59 :: cel q (mcell d (some ⟨np, 0, none⟩) (some ⟨jp, 0, none⟩)) 68 :: rdisk d 0 newD :: rnode np (newR ((l.length : Int) + 1) n 0 0 []) :: cel jp (wcells d lnm 0 false) 125 :: rmans 0 l :: A) w) :
  Own w0 (cel p [.slice b (l ++ [(⟨q, d, upC n l.length⟩ : ME)]).length c, .slice none 0 0] 59 :: row b c 1 60 (nptrC ((l ++ [(⟨q, d, upC n l.length⟩ : ME)]).map ME.q)) :: rmans 0 (l ++ [⟨q, d, upC n l.length⟩]) :: A) w := by
 rw [nptrC_snoc, List.length_append]
 have h1 := rman_mkU (M := 0) (q := q) (dk := d) (m := upC n l.length) (np := np) (jp := jp) rfl (H.ix [2, 3, 4, 5, 0, 1, 6])
 have h2 := rmans_snoc (f := ⟨q, d, upC n l.length⟩) (l := l) (h1.ix [0, 3, 1, 2])
 exact h2.ix [2, 1, 0]
theorem r_new {n : Nat} (h5 : n ≤ 5) : Fun Tryz.prog w0 7 [.int .i64 (n : Int)] A (Ret w0 (fun _ : Nat => True) (fun p => .pointer (some ⟨p, 0, none⟩)) (fun p => rc 0 p (freshC n) :: A)) := by
 refine Fun.enter Tryz.func7 rfl Tryz.ntmps7 rfl ?_
 refine wS $ wR $ sv (vaP rfl) $ wN $ tN $ wS $ wR $ sv (vbd (ps := []) (cs := [_, _]) bt59 zt59 rfl (by rfl)) $ bxc (v := .agg _) (cs := [.slice _ _ _, .slice _ _ _]) rfl rfl fun b2 => sv (vaP rfl) $ wN $ tN $ wS $ wS $ wR $ yI rfl $ wN $ tN $ WC.block $ ?_
 refine WC.loop (ι := NwI) (fun i => [(4, .int .i64 ((i.l.length : Int) + 1))]) [(0, .int _ _), (3, .pointer _)] (fun i => cel b2 [.slice i.b i.l.length i.c, .slice none 0 0] 59 :: row i.b i.c 1 60 (nptrC (i.l.map ME.q)) :: rmans 0 i.l :: A) (fun i => i.l.length ≤ n ∧ i.l.length ≤ i.c ∧ i.l.map ME.m = (List.range i.l.length).map fun k : Nat => upC n k) (fun i => n - i.l.length) (⟨[], none, 0⟩) (⟨Nat.zero_le _, Nat.zero_le _, rfl⟩) ⟨rfl, trivial⟩ ⟨rfl, rfl, trivial⟩ (fun w h => by have h2 : Own w0 (row none 0 1 60 (nptrC []) :: rmans 0 [] :: _) w := Own.intro_row_nil (Own.intro_emp h); exact Sb.o h2) ?_
 rintro ⟨l, lb, lc⟩ ⟨hl1, hl2, hl3⟩ ρh
 dsimp only at hl1 hl2 hl3 ⊢
 refine wS $ wS $ wR $ zI rfl $ zI rfl $ sv (vle rfl rfl) $ wN $ tN $ ?_
 refine WC.ite rfl (fun h1 => ?_) (fun h1 => ?_)
 ·
  refine WC.skip $ tN $ wS $ WC.block $ wS $ wR $ sv (vbd (ps := []) (cs := [_, _, _, _, _]) bt64 zt64 rfl (by rfl)) $ bxc (v := .agg _) (cs := [.slice _ _ _, .bool _, .int _ _, .int _ _, .int _ _]) rfl rfl fun b4 => sv (vbd (ps := [(0, .pointer _)]) (cs := [_, _, _]) bt68 zt68 rfl (by rfl)) $ bxc (v := .agg _) (cs := [.pointer _, .pointer _, .pointer _]) rfl rfl fun b6 => sv (vaP rfl) $ wN $ tN $ wS $ wR $ zP rfl $ zP rfl $ uN rfl $ sv (vfldpz fl68f0 rfl) $ sv (vldc pl61 rfl) $ pm (fun _ h => rdisk_newC (Sb.o h)) $ clx (by repeat' (first | with_reducible exact Sb.all | exact Sb.nil | (apply Sb.cons; focus (first | ((repeat (first | with_reducible exact Tk.here | with_reducible apply Tk.there)); done) | ((repeat (first | exact Tk.here | apply Tk.there)); done))) | apply Sb.drop)) (ref_open_ok (st := newD) (recs := []) (by decide) (by decide) open_newC (by rw [show readS lnm newD = ([], 21) from rfl, recsB_nil]) (by decide)) ct19 rfl fun r8 hr8 => ?_
  obtain ⟨jp, rb, rcap, rl⟩ := r8
  obtain ⟨h5a, h5b⟩ := hr8
  dsimp only at h5a h5b ⊢
  have hrl : rl = [] := by simpa using h5a
  subst hrl
  refine sv vmv $ sv (vex rfl rfl) $ sv (vex rfl rfl) $ sv (vex rfl rfl) $ uN rfl $ sv (vfldp fl68f2 rfl) $ stp (v := .pointer _) pl66 sz66 rfl rfl rfl $ wN $ tN $ wS $ wR $ zP rfl $ zI rfl $ zI rfl $ sv (vbd (ps := []) (cs := [_, _, _]) bt74 zt74 rfl (by rfl)) $ clx (by repeat' (first | with_reducible exact Sb.all | exact Sb.nil | (apply Sb.cons; focus (first | ((repeat (first | with_reducible exact Tk.here | with_reducible apply Tk.there)); done) | ((repeat (first | exact Tk.here | apply Tk.there)); done))) | apply Sb.drop)) (ref_new (l := []) (hR := ⟨RdC.nil⟩) (by decide)) ct20 rfl fun r11 hr11 => ?_
  refine uN rfl $ sv (vfldp fl68f1 rfl) $ stp (v := .pointer _) pl65 sz65 rfl rfl rfl $ wN $ tN $ wR $ zP rfl $ zP rfl $ uN rfl $ sv (vfldpz fl59f0 rfl) $ sv (vldc pl57 rfl) $ zP rfl $ pm ow $ ap1 (v := .pointer _) (vs := nptrC (l.map ME.q)) Tryz.underlying57 zt60 rfl (fun _ => rfl) (fun _ => rfl) rfl rfl rfl (by rw [nptrC_length, List.length_map]) (by simp only [maxLen]; omega) (by omega) fun _ base15 c15 hc15 => ?_
  exact uN rfl $ sv (vfldpz fl59f0 rfl) $ stp (v := .slice _ _ _) pl57 sz57 rfl rfl rfl $ wN $ WX.blockN $ tN $ wR $ zI rfl $ sv (vadd rfl rfl (by omega)) $ yI rfl $ wN $ WX.again (⟨l ++ [⟨b6, b4, upC n l.length⟩], base15, c15⟩) (⟨by dsimp only; rw [List.length_append]; show l.length + 1 ≤ n; omega, by dsimp only; rw [List.length_append]; exact hc15, by dsimp only; rw [List.length_append, List.map_append, hl3, show [(⟨b6, b4, upC n l.length⟩ : ME)].length = 1 from rfl, List.range_succ, List.map_append]; rfl⟩) (by dsimp only; rw [List.length_append]; show n - (l.length + 1) < _; omega) ⟨iv (by rw [List.length_append]; rfl), trivial⟩ ⟨rfl, rfl, trivial⟩ (fun w h => rnew_step (n := n) (Sb.o h))
 ·
  exact WC.exit $ WX.thenE $ WX.thenE $ WX.blockH $ tN $ wS $ wR $ zP rfl $ sv (vaP rfl) $ wN $ tN $ WC.ret $ xR rfl (b2) (trivial) rfl (fun w h => rc_mk (b := ⟨l, [], lb, lc, none, 0⟩) ⟨by rw [hl3, show l.length = n by omega]; rfl, rfl, Nat.le_refl _, hl2⟩ (by have h2 : Own w0 (row none 0 9 85 (mvs []) :: mrows [] :: _) w := no_mails h; exact Sb.o h2))
end Go.Proofs.YtigjompojlhomaaGreat
end
section
set_option linter.unusedVariables false
set_option linter.unusedSimpArgs false
set_option maxRecDepth 4000
set_option maxHeartbeats 1000000
namespace Go.Proofs.YtigjompojlhomaaGreat
open Go.Sl Go.RowKit Go.Raft Go.Journal Go.Pack Go.Council
variable {w0 : World} {A : List HProp}
theorem c_logR {p : Nat} {S : CS} {i : Int} {x : Rn} (hl5 : S.ms.length ≤ 5) (h : nodeOf S i = some x) (hx : RInv x) : Fun Tryz.prog w0 17 [.pointer (some ⟨p, 0, none⟩), .int .i64 i] (hc p S :: A) (Ret w0 (fun i : Option Addr × Nat => x.log.length ≤ i.2) (fun i => .slice i.1 x.log.length i.2) (fun i => hc p S :: row i.1 i.2 2 89 (cvs x.log) :: A)) :=
 (c_log_some hl5 h hx).mono fun _ w ⟨i, hi, he, hO⟩ => ⟨i, hi, he, hO.pk1⟩
theorem law_is20 {p r M K : Nat} {S : CS} (h : CO K S) (hf : Few S) :
  Fun Tryz.prog w0 12 [.pointer (some ⟨p, 0, none⟩), .pointer (some ⟨r, 0, none⟩)] (hc p S :: rc M r S :: A) (Ru w0 (.bool true) (hc p S :: rc M r S :: A)) := by
 have hl5 := h.n.2
 have hml := h.mails
 have hcl : ∀ m ∈ S.mails, m.cells.length ≤ 1099511627776 := fun m hm => Nat.le_trans (hf m hm) (by decide)
 refine Fun.enter Tryz.func12 rfl Tryz.ntmps12 rfl ?_
 refine wS $ wR $ yB rfl $ wN $ tN $ wS $ wS $ wR $ yI rfl $ wN $ tN $ WC.block $ ?_
 refine WC.loop (ι := Nat) (fun i => [(5, .int .i64 i)]) [(0, .pointer _), (1, .pointer _)] (fun i => hc p S :: rc M r S :: A) (fun i => i ≤ S.ms.length + 2) (fun i => S.ms.length + 2 - i) (0) (Nat.zero_le _) ⟨rfl, trivial⟩ ⟨rfl, rfl, trivial⟩ ow ?_
 intro i hi ρh
 refine WC.ex (B := fun b : CB => hc p S :: rL M r b A) (q := fun b => CW S b) (fun w h => by obtain ⟨b, hb, h2⟩ := rc_open h.pk1; exact ⟨b, hb, h2.pk5⟩) ?_
 intro b hcw
 have hbl := hcw.len.1
 have hbm := hcw.len.2
 refine wS $ wS $ wR $ zI rfl $ zP rfl $ uN rfl $ sv (vfldpz fl59f0 rfl) $ sv (vldc pl57 rfl) $ sv (vlen Tryz.underlying57 rfl) $ sv (vadd rfl rfl (by omega)) $ sv (vle rfl rfl) $ wN $ tN $ ?_
 refine WC.ite rfl (fun h1 => ?_) (fun h1 => ?_)
 ·
  have hi2 : i ≤ S.ms.length + 1 := by omega
  have hpl : ∀ j e, b.l[j]? = some e → 0 < (nptrC (b.l.map ME.q)).length := fun j e he => by have := lt_of_at he; rw [nptrC_length, List.length_map]; omega
  have hcase : (i : Int) < 1 ∨ (1 ≤ (i : Int) ∧ (b.l.length : Int) < i) ∨ ∃ (j : Nat) (e : ME), (i : Int) = (j : Int) + 1 ∧ b.l[j]? = some e := by
   by_cases h1 : (i : Int) < 1
   ·exact .inl h1
   ·by_cases h2 : (b.l.length : Int) < i
    ·exact .inr (.inl ⟨by omega, h2⟩)
    ·exact .inr (.inr ⟨i - 1, _, by omega, List.getElem?_eq_getElem (by omega)⟩)
  rcases hcase with hlo | ⟨h1i, hhi⟩ | ⟨j, e, hij, he⟩
  rotate_left 2
  obtain ⟨⟨np0, jp0⟩, hX⟩ : ∃ x : Option Rn × Unit, e.m.node = x.1 := ⟨(e.m.node, ()), rfl⟩
  rcases np0 with _ | x
  rotate_left 2
  ·
   have hx : nodeOf S (i : Int) = none := by unfold nodeOf; rw [if_neg (by omega)]
   refine WC.skip $ tN $ wS $ WC.block $ wS $ wR $ sv (vbd (ps := []) (cs := [_, _, _, _, _, _, _, _, _, _, _, _, _, _, _, _, _, _, _, _, _, _, _, _, _, _, _, _]) bt100 zt100 rfl (by rfl)) $ bxc (v := .agg _) (cs := [.int _ _, .int _ _, .int _ _, .int _ _, .slice _ _ _, .int _ _, .int _ _, .int _ _, .int _ _, .bool _, .bool _, .bool _, .bool _, .bool _, .bool _, .int _ _, .int _ _, .int _ _, .int _ _, .int _ _, .int _ _, .int _ _, .int _ _, .int _ _, .int _ _, .int _ _, .int _ _, .int _ _]) rfl rfl fun b4 => sv (vaP rfl) $ wN $ tN $ ?_
   refine WC.cutS [(7, .bool (decide (False)))] [(0, .pointer _), (1, .pointer _), (5, .int _ _), (6, .pointer _)] ⟨rfl, rfl, rfl, rfl, trivial⟩ ?_ fun ρh => ?_
   ·
    exact wR $ zI rfl $ sv (vF (vge rfl rfl) (by omega)) $ zB rfl $ sng rfl $ sng rfl $ sng rfl $ sng rfl $ sng rfl $ sng rfl $ sng rfl $ uF rfl $ zB rfl $ sng rfl $ sng rfl $ sng rfl $ sng rfl $ sng rfl $ sng rfl $ sng rfl $ sng rfl $ sng rfl $ sng rfl $ sng rfl $ sng rfl $ uF rfl $ yB rfl $ wN $ xM () trivial ⟨bFa, trivial⟩ ⟨rfl, rfl, rfl, rfl, trivial⟩ ow
   refine WC.perm ?_ (fun w h => Own.pk1 h)
   refine wS $ wS $ wR $ zB rfl $ wN $ tN $ ?_
   refine WC.ff rfl ?_
   refine WC.skip $ tN $ wS $ wR $ zP rfl $ zI rfl $ clxo (c_log_none hl5 hx) ct17 rfl fun r17 hr17 => ?_
   refine yS rfl $ wN $ tN $ wS $ ?_
   refine WC.cutS [(120, .bool (decide (False)))] [(0, .pointer _), (1, .pointer _), (5, .int _ _), (8, .slice _ _ _)] ⟨rfl, rfl, rfl, rfl, trivial⟩ ?_ fun ρh => ?_
   ·
    exact WC.draws rfl (by kernel_rfl) $ qv (vmP rfl) $ qv (vmI rfl) $ qcl (Fun.quiet (c_up_none hl5 hx)) ct18 rfl $ qv (vmB rfl) $ qv (vF (vneb Tryz.underlying4 rfl rfl) (by simp)) $ qv (vmB rfl) $ qvg rfl (vmP rfl) $ qvg rfl (vmI rfl) $ qclg rfl (Fun.quiet (c_role_none hl5 hx)) ct16 rfl $ qvg rfl (vmP rfl) $ qvg rfl (vnil rfl) $ qvg rfl (vfldp fl100f3 rfl) $ qvg rfl (vldc pl3 rfl) $ qvg rfl (vF (vne rfl rfl) (by omega)) $ qv (vpkf rfl) $ qv (vmB rfl) $ qvg rfl (vmP rfl) $ qvg rfl (vmI rfl) $ qclg rfl (Fun.quiet (c_leader_none hl5 hx)) ct32 rfl $ qvg rfl (vmP rfl) $ qvg rfl (vnil rfl) $ qvg rfl (vfldp fl100f4 rfl) $ qvg rfl (vldc pl3 rfl) $ qvg rfl (vF (vne rfl rfl) (by omega)) $ qv (vpkf rfl) $ qv (vmB rfl) $ qvg rfl (vmP rfl) $ qvg rfl (vmI rfl) $ qclg rfl (Fun.quiet (c_term_none hl5 hx)) ct33 rfl $ qvg rfl (vmP rfl) $ qvg rfl (vnil rfl) $ qvg rfl (vfldp fl100f2 rfl) $ qvg rfl (vfldpz fl74f0 rfl) $ qvg rfl (vldc pl3 rfl) $ qvg rfl (vF (vne rfl rfl) (by omega)) $ qv (vpkf rfl) $ qv (vmB rfl) $ qvg rfl (vmP rfl) $ qvg rfl (vmI rfl) $ qclg rfl (Fun.quiet (c_commit_none hl5 hx)) ct34 rfl $ qvg rfl (vmP rfl) $ qvg rfl (vnil rfl) $ qvg rfl (vfldp fl100f5 rfl) $ qvg rfl (vldc pl3 rfl) $ qvg rfl (vF (vne rfl rfl) (by omega)) $ qv (vpkf rfl) $ qv (vmB rfl) $ qvg rfl (vmS rfl) $ qvg rfl (vmP rfl) $ qvg rfl (vnil rfl) $ qvg rfl (vfldp fl100f2 rfl) $ qvg rfl (vfldp fl74f2 rfl) $ qvg rfl (vldc pl54 rfl) $ qclg rfl (Fun.quiet (ref_samecells_eq (k := []) (l := []) (hR := ⟨RdC.nil⟩) (hS := ⟨RdC.nil⟩) (by decide) rfl)) ct35 rfl $ qvg rfl (vnot rfl) $ qv (vpkf rfl) $ WQ.nil $ xM () trivial ⟨bFa, trivial⟩ ⟨rfl, rfl, rfl, rfl, trivial⟩ ow
   refine WC.ff rfl ?_
   refine WC.skip $ tN $ wS $ wR $ yI rfl $ wN $ tN $ WC.block $ ?_
   refine WC.loopS (ι := Nat) (fun k => [(9, .int .i64 k)]) [(0, .pointer _), (1, .pointer _), (5, .int _ _), (8, .slice _ _ _)] (fun k => k = 0) (fun k => 0) (0) (rfl) ⟨rfl, trivial⟩ ⟨rfl, rfl, rfl, rfl, trivial⟩ ?_
   intro k hk ρh
   refine wS $ wS $ wR $ zI rfl $ zS rfl $ sv (vlen Tryz.underlying54 rfl) $ sv (vlt rfl rfl) $ wN $ tN $ ?_
   refine WC.ite rfl (fun h4 => ?_) (fun h4 => ?_)
   ·
    exact absurd h4 (by omega)
   ·
    exact WC.exit $ WX.thenE $ WX.thenE $ WX.blockH $ WX.blockN $ tN $ wR $ zI rfl $ sv (vadd rfl rfl (by omega)) $ yI rfl $ wN $ WX.again (i + 1) (by omega) (by omega) ⟨rfl, trivial⟩ ⟨rfl, rfl, trivial⟩ (fun w h => by have h4 : Own w0 (rL M r b (hc p S :: A)) w := Sb.o h; exact (rc_mk (A := hc p S :: A) hcw h4).pk1)
  ·
   have hx : nodeOf S (i : Int) = none := by unfold nodeOf; rw [if_neg (by omega)]
   refine WC.skip $ tN $ wS $ WC.block $ wS $ wR $ sv (vbd (ps := []) (cs := [_, _, _, _, _, _, _, _, _, _, _, _, _, _, _, _, _, _, _, _, _, _, _, _, _, _, _, _]) bt100 zt100 rfl (by rfl)) $ bxc (v := .agg _) (cs := [.int _ _, .int _ _, .int _ _, .int _ _, .slice _ _ _, .int _ _, .int _ _, .int _ _, .int _ _, .bool _, .bool _, .bool _, .bool _, .bool _, .bool _, .int _ _, .int _ _, .int _ _, .int _ _, .int _ _, .int _ _, .int _ _, .int _ _, .int _ _, .int _ _, .int _ _, .int _ _, .int _ _]) rfl rfl fun b4 => sv (vaP rfl) $ wN $ tN $ ?_
   refine WC.cutS [(7, .bool (decide (False)))] [(0, .pointer _), (1, .pointer _), (5, .int _ _), (6, .pointer _)] ⟨rfl, rfl, rfl, rfl, trivial⟩ ?_ fun ρh => ?_
   ·
    exact wR $ zI rfl $ sv (vT (vge rfl rfl) (by omega)) $ zB rfl $ svg rfl (vmI rfl) $ svg rfl (vmP rfl) $ svg rfl (vnil rfl) $ svg rfl (vfldpz fl59f0 rfl) $ svg rfl (vldc pl57 rfl) $ svg rfl (vlen Tryz.underlying57 rfl) $ svg rfl (vF (vle rfl rfl) (by omega)) $ uT rfl $ zB rfl $ sng rfl $ sng rfl $ sng rfl $ sng rfl $ sng rfl $ sng rfl $ sng rfl $ sng rfl $ sng rfl $ sng rfl $ sng rfl $ sng rfl $ uF rfl $ yB rfl $ wN $ xM () trivial ⟨bFa, trivial⟩ ⟨rfl, rfl, rfl, rfl, trivial⟩ ow
   refine WC.perm ?_ (fun w h => Own.pk1 h)
   refine wS $ wS $ wR $ zB rfl $ wN $ tN $ ?_
   refine WC.ff rfl ?_
   refine WC.skip $ tN $ wS $ wR $ zP rfl $ zI rfl $ clxo (c_log_none hl5 hx) ct17 rfl fun r17 hr17 => ?_
   refine yS rfl $ wN $ tN $ wS $ ?_
   refine WC.cutS [(120, .bool (decide (False)))] [(0, .pointer _), (1, .pointer _), (5, .int _ _), (8, .slice _ _ _)] ⟨rfl, rfl, rfl, rfl, trivial⟩ ?_ fun ρh => ?_
   ·
    exact WC.draws rfl (by kernel_rfl) $ qv (vmP rfl) $ qv (vmI rfl) $ qcl (Fun.quiet (c_up_none hl5 hx)) ct18 rfl $ qv (vmB rfl) $ qv (vF (vneb Tryz.underlying4 rfl rfl) (by simp)) $ qv (vmB rfl) $ qvg rfl (vmP rfl) $ qvg rfl (vmI rfl) $ qclg rfl (Fun.quiet (c_role_none hl5 hx)) ct16 rfl $ qvg rfl (vmP rfl) $ qvg rfl (vnil rfl) $ qvg rfl (vfldp fl100f3 rfl) $ qvg rfl (vldc pl3 rfl) $ qvg rfl (vF (vne rfl rfl) (by omega)) $ qv (vpkf rfl) $ qv (vmB rfl) $ qvg rfl (vmP rfl) $ qvg rfl (vmI rfl) $ qclg rfl (Fun.quiet (c_leader_none hl5 hx)) ct32 rfl $ qvg rfl (vmP rfl) $ qvg rfl (vnil rfl) $ qvg rfl (vfldp fl100f4 rfl) $ qvg rfl (vldc pl3 rfl) $ qvg rfl (vF (vne rfl rfl) (by omega)) $ qv (vpkf rfl) $ qv (vmB rfl) $ qvg rfl (vmP rfl) $ qvg rfl (vmI rfl) $ qclg rfl (Fun.quiet (c_term_none hl5 hx)) ct33 rfl $ qvg rfl (vmP rfl) $ qvg rfl (vnil rfl) $ qvg rfl (vfldp fl100f2 rfl) $ qvg rfl (vfldpz fl74f0 rfl) $ qvg rfl (vldc pl3 rfl) $ qvg rfl (vF (vne rfl rfl) (by omega)) $ qv (vpkf rfl) $ qv (vmB rfl) $ qvg rfl (vmP rfl) $ qvg rfl (vmI rfl) $ qclg rfl (Fun.quiet (c_commit_none hl5 hx)) ct34 rfl $ qvg rfl (vmP rfl) $ qvg rfl (vnil rfl) $ qvg rfl (vfldp fl100f5 rfl) $ qvg rfl (vldc pl3 rfl) $ qvg rfl (vF (vne rfl rfl) (by omega)) $ qv (vpkf rfl) $ qv (vmB rfl) $ qvg rfl (vmS rfl) $ qvg rfl (vmP rfl) $ qvg rfl (vnil rfl) $ qvg rfl (vfldp fl100f2 rfl) $ qvg rfl (vfldp fl74f2 rfl) $ qvg rfl (vldc pl54 rfl) $ qclg rfl (Fun.quiet (ref_samecells_eq (k := []) (l := []) (hR := ⟨RdC.nil⟩) (hS := ⟨RdC.nil⟩) (by decide) rfl)) ct35 rfl $ qvg rfl (vnot rfl) $ qv (vpkf rfl) $ WQ.nil $ xM () trivial ⟨bFa, trivial⟩ ⟨rfl, rfl, rfl, rfl, trivial⟩ ow
   refine WC.ff rfl ?_
   refine WC.skip $ tN $ wS $ wR $ yI rfl $ wN $ tN $ WC.block $ ?_
   refine WC.loopS (ι := Nat) (fun k => [(9, .int .i64 k)]) [(0, .pointer _), (1, .pointer _), (5, .int _ _), (8, .slice _ _ _)] (fun k => k = 0) (fun k => 0) (0) (rfl) ⟨rfl, trivial⟩ ⟨rfl, rfl, rfl, rfl, trivial⟩ ?_
   intro k hk ρh
   refine wS $ wS $ wR $ zI rfl $ zS rfl $ sv (vlen Tryz.underlying54 rfl) $ sv (vlt rfl rfl) $ wN $ tN $ ?_
   refine WC.ite rfl (fun h7 => ?_) (fun h7 => ?_)
   ·
    exact absurd h7 (by omega)
   ·
    exact WC.exit $ WX.thenE $ WX.thenE $ WX.blockH $ WX.blockN $ tN $ wR $ zI rfl $ sv (vadd rfl rfl (by omega)) $ yI rfl $ wN $ WX.again (i + 1) (by omega) (by omega) ⟨rfl, trivial⟩ ⟨rfl, rfl, trivial⟩ (fun w h => by have h4 : Own w0 (rL M r b (hc p S :: A)) w := Sb.o h; exact (rc_mk (A := hc p S :: A) hcw h4).pk1)
  ·
   have hjl := lt_of_at he
   have hpt := nptrR_at he
   have hpl2 := hpl j e he
   have hSj : S.ms[j]? = some e.m := by rw [← hcw.l, List.getElem?_map, he]; rfl
   dsimp only at hX
   have hx : nodeOf S (i : Int) = none := by rw [hij, nodeOf_at hSj]; exact hX
   refine WC.ex (B := fun jo : Option Addr => hc p S :: cel e.q (mcell e.dk none jo) 68 :: rdisk e.dk M e.m.st :: rL1 M r j b A) (q := fun _ => True) (fun w h => by obtain ⟨jo, h2⟩ := rman_down hX (rL_out (A := hc p S :: A) he (Sb.o h)); exact ⟨jo, trivial, Sb.o h2⟩) ?_
   intro jo _
   refine WC.skip $ tN $ wS $ WC.block $ wS $ wR $ sv (vbd (ps := []) (cs := [_, _, _, _, _, _, _, _, _, _, _, _, _, _, _, _, _, _, _, _, _, _, _, _, _, _, _, _]) bt100 zt100 rfl (by rfl)) $ bxc (v := .agg _) (cs := [.int _ _, .int _ _, .int _ _, .int _ _, .slice _ _ _, .int _ _, .int _ _, .int _ _, .int _ _, .bool _, .bool _, .bool _, .bool _, .bool _, .bool _, .int _ _, .int _ _, .int _ _, .int _ _, .int _ _, .int _ _, .int _ _, .int _ _, .int _ _, .int _ _, .int _ _, .int _ _, .int _ _]) rfl rfl fun b4 => sv (vaP rfl) $ wN $ tN $ ?_
   refine WC.cutS [(7, .bool (decide (False)))] [(0, .pointer _), (1, .pointer _), (5, .int _ _), (6, .pointer _)] ⟨rfl, rfl, rfl, rfl, trivial⟩ ?_ fun ρh => ?_
   ·
    exact wR $ zI rfl $ sv (vT (vge rfl rfl) (by omega)) $ zB rfl $ svg rfl (vmI rfl) $ svg rfl (vmP rfl) $ svg rfl (vnil rfl) $ svg rfl (vfldpz fl59f0 rfl) $ svg rfl (vldc pl57 rfl) $ svg rfl (vlen Tryz.underlying57 rfl) $ svg rfl (vT (vle rfl rfl) (by omega)) $ uT rfl $ zB rfl $ svg rfl (vmP rfl) $ svg rfl (vnil rfl) $ svg rfl (vfldpz fl59f0 rfl) $ svg rfl (vldc pl57 rfl) $ svg rfl (vmI rfl) $ svg rfl (vw (v' := .int .i64 (j : Int)) (vsub rfl rfl (by omega)) (iv (by omega))) $ svg rfl (vix1 Tryz.underlying57 sz60 rfl rfl (by omega) (by omega) reads hpl2) $ svg rfl (vldr pl60 rfl hpt) $ svg rfl (vnil rfl) $ svg rfl (vfldp fl68f1 rfl) $ svg rfl (vldc pl65 rfl) $ svg rfl (vpneF Tryz.underlying65 rfl rfl) $ uT rfl $ yB rfl $ wN $ xM () trivial ⟨bFa, trivial⟩ ⟨rfl, rfl, rfl, rfl, trivial⟩ ow
   refine WC.perm ?_ (fun w h => Own.pk1 h)
   refine wS $ wS $ wR $ zB rfl $ wN $ tN $ ?_
   refine WC.ff rfl ?_
   refine WC.skip $ tN $ wS $ wR $ zP rfl $ zI rfl $ clxo (c_log_none hl5 hx) ct17 rfl fun r17 hr17 => ?_
   refine yS rfl $ wN $ tN $ wS $ ?_
   refine WC.cutS [(120, .bool (decide (False)))] [(0, .pointer _), (1, .pointer _), (5, .int _ _), (8, .slice _ _ _)] ⟨rfl, rfl, rfl, rfl, trivial⟩ ?_ fun ρh => ?_
   ·
    exact WC.draws rfl (by kernel_rfl) $ qv (vmP rfl) $ qv (vmI rfl) $ qcl (Fun.quiet (c_up_none hl5 hx)) ct18 rfl $ qv (vmB rfl) $ qv (vF (vneb Tryz.underlying4 rfl rfl) (by simp)) $ qv (vmB rfl) $ qvg rfl (vmP rfl) $ qvg rfl (vmI rfl) $ qclg rfl (Fun.quiet (c_role_none hl5 hx)) ct16 rfl $ qvg rfl (vmP rfl) $ qvg rfl (vnil rfl) $ qvg rfl (vfldp fl100f3 rfl) $ qvg rfl (vldc pl3 rfl) $ qvg rfl (vF (vne rfl rfl) (by omega)) $ qv (vpkf rfl) $ qv (vmB rfl) $ qvg rfl (vmP rfl) $ qvg rfl (vmI rfl) $ qclg rfl (Fun.quiet (c_leader_none hl5 hx)) ct32 rfl $ qvg rfl (vmP rfl) $ qvg rfl (vnil rfl) $ qvg rfl (vfldp fl100f4 rfl) $ qvg rfl (vldc pl3 rfl) $ qvg rfl (vF (vne rfl rfl) (by omega)) $ qv (vpkf rfl) $ qv (vmB rfl) $ qvg rfl (vmP rfl) $ qvg rfl (vmI rfl) $ qclg rfl (Fun.quiet (c_term_none hl5 hx)) ct33 rfl $ qvg rfl (vmP rfl) $ qvg rfl (vnil rfl) $ qvg rfl (vfldp fl100f2 rfl) $ qvg rfl (vfldpz fl74f0 rfl) $ qvg rfl (vldc pl3 rfl) $ qvg rfl (vF (vne rfl rfl) (by omega)) $ qv (vpkf rfl) $ qv (vmB rfl) $ qvg rfl (vmP rfl) $ qvg rfl (vmI rfl) $ qclg rfl (Fun.quiet (c_commit_none hl5 hx)) ct34 rfl $ qvg rfl (vmP rfl) $ qvg rfl (vnil rfl) $ qvg rfl (vfldp fl100f5 rfl) $ qvg rfl (vldc pl3 rfl) $ qvg rfl (vF (vne rfl rfl) (by omega)) $ qv (vpkf rfl) $ qv (vmB rfl) $ qvg rfl (vmS rfl) $ qvg rfl (vmP rfl) $ qvg rfl (vnil rfl) $ qvg rfl (vfldp fl100f2 rfl) $ qvg rfl (vfldp fl74f2 rfl) $ qvg rfl (vldc pl54 rfl) $ qclg rfl (Fun.quiet (ref_samecells_eq (k := []) (l := []) (hR := ⟨RdC.nil⟩) (hS := ⟨RdC.nil⟩) (by decide) rfl)) ct35 rfl $ qvg rfl (vnot rfl) $ qv (vpkf rfl) $ WQ.nil $ xM () trivial ⟨bFa, trivial⟩ ⟨rfl, rfl, rfl, rfl, trivial⟩ ow
   refine WC.ff rfl ?_
   refine WC.skip $ tN $ wS $ wR $ yI rfl $ wN $ tN $ WC.block $ ?_
   refine WC.loopS (ι := Nat) (fun k => [(9, .int .i64 k)]) [(0, .pointer _), (1, .pointer _), (5, .int _ _), (8, .slice _ _ _)] (fun k => k = 0) (fun k => 0) (0) (rfl) ⟨rfl, trivial⟩ ⟨rfl, rfl, rfl, rfl, trivial⟩ ?_
   intro k hk ρh
   refine wS $ wS $ wR $ zI rfl $ zS rfl $ sv (vlen Tryz.underlying54 rfl) $ sv (vlt rfl rfl) $ wN $ tN $ ?_
   refine WC.ite rfl (fun h10 => ?_) (fun h10 => ?_)
   ·
    exact absurd h10 (by omega)
   ·
    exact WC.exit $ WX.thenE $ WX.thenE $ WX.blockH $ WX.blockN $ tN $ wR $ zI rfl $ sv (vadd rfl rfl (by omega)) $ yI rfl $ wN $ WX.again (i + 1) (by omega) (by omega) ⟨rfl, trivial⟩ ⟨rfl, rfl, trivial⟩ (fun w h => by have h4 : Own w0 (cel e.q (mcell e.dk none jo) 68 :: rdisk e.dk M e.m.st :: rL1 M r j b (hc p S :: A)) w := Sb.o h; have h6 := rL_in (m := e.m) he (rman_mkD (A := rL1 M r j b (hc p S :: A)) hX h4); exact (rc_mk (A := hc p S :: A) (b := { b with l := b.l.set j ⟨e.q, e.dk, e.m⟩ }) (by have h2 := hcw.set (m := e.m) he; rwa [putM_same hSj] at h2) h6).pk1)
  ·
   have hjl := lt_of_at he
   have hpt := nptrR_at he
   have hpl2 := hpl j e he
   have hSj : S.ms[j]? = some e.m := by rw [← hcw.l, List.getElem?_map, he]; rfl
   dsimp only at hX
   have hx : nodeOf S (i : Int) = some x := by rw [hij, nodeOf_at hSj]; exact hX
   obtain ⟨_, hri, _⟩ := (h.mg j _ hSj).up x hX
   have hlx := hri.log
   refine WC.ex (B := fun y : (Nat × Nat) × RI => hc p S :: cel y.1.1 (rncells x y.2.base y.2.c y.2.V y.2.N y.2.M) 100 :: row y.2.base y.2.c 2 89 (cvs x.log) :: cel e.q (mcell e.dk (some ⟨y.1.1, 0, none⟩) (some ⟨y.1.2, 0, none⟩)) 68 :: rdisk e.dk M e.m.st :: cel y.1.2 (wcells e.dk lnm e.m.rs.length false) 125 :: rL1 M r j b A) (q := fun y => x.log.length ≤ y.2.c ∧ RelR x y.2.V y.2.N y.2.M) (fun w h => by obtain ⟨y1, h2⟩ := rman_up hX (rL_out (A := hc p S :: A) he (Sb.o h)); have h3 : Own w0 (rnode y1.1 x :: _) w := Sb.o h2; obtain ⟨y2, hy2, h4⟩ := rnode_open h3; exact ⟨(y1, y2), hy2, Sb.o h4⟩) ?_
   rintro ⟨⟨np, jp⟩, ⟨yb, yc, V, N, Q⟩⟩ ⟨hyc, hyr⟩
   dsimp only at hyc hyr ⊢
   refine WC.skip $ tN $ wS $ WC.block $ wS $ wR $ sv (vbd (ps := []) (cs := [_, _, _, _, _, _, _, _, _, _, _, _, _, _, _, _, _, _, _, _, _, _, _, _, _, _, _, _]) bt100 zt100 rfl (by rfl)) $ bxc (v := .agg _) (cs := [.int _ _, .int _ _, .int _ _, .int _ _, .slice _ _ _, .int _ _, .int _ _, .int _ _, .int _ _, .bool _, .bool _, .bool _, .bool _, .bool _, .bool _, .int _ _, .int _ _, .int _ _, .int _ _, .int _ _, .int _ _, .int _ _, .int _ _, .int _ _, .int _ _, .int _ _, .int _ _, .int _ _]) rfl rfl fun b4 => sv (vaP rfl) $ wN $ tN $ ?_
   refine WC.cutS [(7, .bool (decide (True)))] [(0, .pointer _), (1, .pointer _), (5, .int _ _), (6, .pointer _)] ⟨rfl, rfl, rfl, rfl, trivial⟩ ?_ fun ρh => ?_
   ·
    exact wR $ zI rfl $ sv (vT (vge rfl rfl) (by omega)) $ zB rfl $ svg rfl (vmI rfl) $ svg rfl (vmP rfl) $ svg rfl (vnil rfl) $ svg rfl (vfldpz fl59f0 rfl) $ svg rfl (vldc pl57 rfl) $ svg rfl (vlen Tryz.underlying57 rfl) $ svg rfl (vT (vle rfl rfl) (by omega)) $ uT rfl $ zB rfl $ svg rfl (vmP rfl) $ svg rfl (vnil rfl) $ svg rfl (vfldpz fl59f0 rfl) $ svg rfl (vldc pl57 rfl) $ svg rfl (vmI rfl) $ svg rfl (vw (v' := .int .i64 (j : Int)) (vsub rfl rfl (by omega)) (iv (by omega))) $ svg rfl (vix1 Tryz.underlying57 sz60 rfl rfl (by omega) (by omega) reads hpl2) $ svg rfl (vldr pl60 rfl hpt) $ svg rfl (vnil rfl) $ svg rfl (vfldp fl68f1 rfl) $ svg rfl (vldc pl65 rfl) $ svg rfl (vpneT Tryz.underlying65 rfl rfl) $ uT rfl $ yB rfl $ wN $ xM () trivial ⟨bTa, trivial⟩ ⟨rfl, rfl, rfl, rfl, trivial⟩ ow
   refine WC.perm ?_ (fun w h => Own.pk1 h)
   refine wS $ wS $ wR $ zB rfl $ wN $ tN $ ?_
   refine WC.tt rfl ?_
   refine wR $ zP rfl $ uN rfl $ sv (vfldpz fl59f0 rfl) $ sv (vldc pl57 rfl) $ zI rfl $ sv (vw (v' := .int .i64 (j : Int)) (vsub rfl rfl (by omega)) (iv (by omega))) $ sv (vix1 Tryz.underlying57 sz60 rfl rfl (by omega) (by omega) reads hpl2) $ sv (vldr pl60 rfl hpt) $ uN rfl $ sv (vfldp fl68f1 rfl) $ sv (vldc pl65 rfl) $ sv (vaP rfl) $ wN $ tN $ wS $ wR $ zP rfl $ zI rfl $ clxo (c_logR hl5 hx hri) ct17 rfl fun r17 hr17 => ?_
   refine yS rfl $ wN $ tN $ wS $ ?_
   refine WC.cutS [(120, .bool (decide (False)))] [(0, .pointer _), (1, .pointer _), (5, .int _ _), (8, .slice _ _ _)] ⟨rfl, rfl, rfl, rfl, trivial⟩ ?_ fun ρh => ?_
   ·
    exact WC.draws rfl (by kernel_rfl) $ qv (vmP rfl) $ qv (vmI rfl) $ qcl (Fun.quiet (c_up_some hl5 hx)) ct18 rfl $ qv (vmB rfl) $ qv (vF (vneb Tryz.underlying4 rfl rfl) (by simp)) $ qv (vmB rfl) $ qvg rfl (vmP rfl) $ qvg rfl (vmI rfl) $ qclg rfl (Fun.quiet (c_role_some hl5 hx)) ct16 rfl $ qvg rfl (vmP rfl) $ qvg rfl (vnil rfl) $ qvg rfl (vfldp fl100f3 rfl) $ qvg rfl (vldc pl3 rfl) $ qvg rfl (vF (vne rfl rfl) (by omega)) $ qv (vpkf rfl) $ qv (vmB rfl) $ qvg rfl (vmP rfl) $ qvg rfl (vmI rfl) $ qclg rfl (Fun.quiet (c_leader_some hl5 hx)) ct32 rfl $ qvg rfl (vmP rfl) $ qvg rfl (vnil rfl) $ qvg rfl (vfldp fl100f4 rfl) $ qvg rfl (vldc pl3 rfl) $ qvg rfl (vF (vne rfl rfl) (by omega)) $ qv (vpkf rfl) $ qv (vmB rfl) $ qvg rfl (vmP rfl) $ qvg rfl (vmI rfl) $ qclg rfl (Fun.quiet (c_term_some hl5 hx hri)) ct33 rfl $ qvg rfl (vmP rfl) $ qvg rfl (vnil rfl) $ qvg rfl (vfldp fl100f2 rfl) $ qvg rfl (vfldpz fl74f0 rfl) $ qvg rfl (vldc pl3 rfl) $ qvg rfl (vF (vne rfl rfl) (by omega)) $ qv (vpkf rfl) $ qv (vmB rfl) $ qvg rfl (vmP rfl) $ qvg rfl (vmI rfl) $ qclg rfl (Fun.quiet (c_commit_some hl5 hx)) ct34 rfl $ qvg rfl (vmP rfl) $ qvg rfl (vnil rfl) $ qvg rfl (vfldp fl100f5 rfl) $ qvg rfl (vldc pl3 rfl) $ qvg rfl (vF (vne rfl rfl) (by omega)) $ qv (vpkf rfl) $ qv (vmB rfl) $ qvg rfl (vmS rfl) $ qvg rfl (vmP rfl) $ qvg rfl (vnil rfl) $ qvg rfl (vfldp fl100f2 rfl) $ qvg rfl (vfldp fl74f2 rfl) $ qvg rfl (vldc pl54 rfl) $ qclg rfl (Fun.quiet (ref_samecells_eq (k := x.log) (l := x.log) (by omega) rfl)) ct35 rfl $ qvg rfl (vnot rfl) $ qv (vpkf rfl) $ WQ.nil $ xM () trivial ⟨bFa, trivial⟩ ⟨rfl, rfl, rfl, rfl, trivial⟩ ow
   refine WC.ff rfl ?_
   refine WC.skip $ tN $ wS $ wR $ yI rfl $ wN $ tN $ WC.block $ ?_
   refine WC.loop (ι := Nat × List Cl) (fun q => [(9, .int .i64 q.1)]) [(0, .pointer _), (1, .pointer _), (5, .int _ _), (8, .slice _ _ _)] (fun q => row r17.1 r17.2 2 89 (cvs q.2) :: hc p S :: cel np (rncells x yb yc V N Q) 100 :: row yb yc 2 89 (cvs x.log) :: cel e.q (mcell e.dk (some ⟨np, 0, none⟩) (some ⟨jp, 0, none⟩)) 68 :: rdisk e.dk M e.m.st :: cel jp (wcells e.dk lnm e.m.rs.length false) 125 :: rL1 M r j b A) (fun q => q.1 ≤ x.log.length ∧ q.2.length = x.log.length) (fun q => x.log.length - q.1) ((0, x.log)) (⟨Nat.zero_le _, rfl⟩) ⟨rfl, trivial⟩ ⟨rfl, rfl, rfl, rfl, trivial⟩ ow ?_
   rintro ⟨k, lx⟩ ⟨hk1, hk2⟩ ρh
   dsimp only at hk1 hk2 ⊢
   have hxl := cvs_length lx
   refine wS $ wS $ wR $ zI rfl $ zS rfl $ sv (vlen Tryz.underlying54 rfl) $ sv (vlt rfl rfl) $ wN $ tN $ ?_
   refine WC.ite rfl (fun h13 => ?_) (fun h13 => ?_)
   ·
    have hpos2 : 0 < (cvs lx).length := by omega
    exact WC.skip $ tN $ wS $ WC.block $ wR $ zS rfl $ zI rfl $ sv (vbd (ps := [(1, (.string (ByteArray.mk #[103, 111, 110, 101])))]) (cs := [_, _]) bt89 zt89 rfl (by rfl)) $ sv (vix Tryz.underlying54 sz89 rfl rfl (by omega) (by omega) reads hpos2) $ staRp (vs' := cvs (lx.set k goneC)) sz89 rfl rfl rfl rfl (by decide) (by show ((k : Int)).toNat * 2 + 2 ≤ _; omega) (by rw [Int.toNat_natCast]; exact cvs_set (l := lx) (i := k) (c := goneC) (by omega)) $ wN $ WX.blockN $ tN $ wR $ zI rfl $ sv (vadd rfl rfl (by omega)) $ yI rfl $ wN $ WX.again ((k + 1, lx.set k goneC)) (⟨by omega, by rw [List.length_set]; exact hk2⟩) (by omega) ⟨rfl, trivial⟩ ⟨rfl, rfl, rfl, rfl, trivial⟩ ow
   ·
    exact WC.exit $ WX.thenE $ WX.thenE $ WX.blockH $ WX.blockN $ tN $ wR $ zI rfl $ sv (vadd rfl rfl (by omega)) $ yI rfl $ wN $ WX.again (i + 1) (by omega) (by omega) ⟨rfl, trivial⟩ ⟨rfl, rfl, trivial⟩ (fun w h => by have h2 : Own w0 (cel np (rncells x yb yc V N Q) 100 :: row yb yc 2 89 (cvs x.log) :: _) w := Sb.o h; have h3 := rnode_mk hyc hyr h2; have h4 : Own w0 (cel e.q (mcell e.dk (some ⟨np, 0, none⟩) (some ⟨jp, 0, none⟩)) 68 :: rdisk e.dk M e.m.st :: rnode np x :: cel jp (wcells e.dk lnm e.m.rs.length false) 125 :: rL1 M r j b (hc p S :: A)) w := Sb.o h3; have h6 := rL_in (m := e.m) he (rman_mkU (A := rL1 M r j b (hc p S :: A)) hX h4); exact (rc_mk (A := hc p S :: A) (b := { b with l := b.l.set j ⟨e.q, e.dk, e.m⟩ }) (by have h2 := hcw.set (m := e.m) he; rwa [putM_same hSj] at h2) h6).pk1)
 ·
  refine WC.exit $ WX.thenE $ WX.thenE $ WX.blockH $ tN $ wS $ wR $ zP rfl $ clxo (c_mails hml hcl) ct15 rfl fun r34 hr34 => ?_
  obtain ⟨lb, lc, lm⟩ := r34
  obtain ⟨hr34a, hr34b⟩ := hr34
  dsimp only at hr34a hr34b ⊢
  have hll : lm.length = S.mails.length := by have := congrArg List.length hr34a; rwa [List.length_map] at this
  have hcl2 : ∀ m ∈ lm, m.cs.xs.length ≤ 9223372036854775807 := fun m hm => by have h1 : m.ml ∈ S.mails := by { rw [← hr34a]; exact List.mem_map.2 ⟨m, hm, rfl⟩ }; have h2 := hcl _ h1; exact Nat.le_trans h2 (by decide)
  refine yS rfl $ wN $ tN $ wS $ wS $ wR $ zS rfl $ zP rfl $ uN rfl $ sv (vfldp fl59f1 rfl) $ sv (vldc pl41 rfl) $ clx (by repeat' (first | with_reducible exact Sb.all | exact Sb.nil | (apply Sb.cons; focus (first | ((repeat (first | with_reducible exact Tk.here | with_reducible apply Tk.there)); done) | ((repeat (first | exact Tk.here | apply Tk.there)); done))) | apply Sb.drop)) (ref_same_eq lm b.ms reads reads ⟨by omega, hcl2⟩ (fun m hm => mrowsRd (by simp) hm) (fun m hm => mrowsRd (by simp) hm) (by rw [hr34a, hcw.ms])) ct36 rfl fun r36 hr36 => ?_
  refine sv (vnot rfl) $ wN $ tN $ ?_
  refine WC.ff rfl ?_
  refine WC.skip $ tN $ wS $ wS $ wR $ yI rfl $ wN $ tN $ WC.block $ ?_
  refine WC.loop (ι := Nat × List Mh) (fun i => [(11, .int .i64 i.1)]) [(10, .slice _ _ _)] (fun i => row lb lc 9 85 (mvs i.2) :: mrows (lm.drop i.1) :: hc p S :: rL M r b A) (fun i => i.1 ≤ lm.length ∧ i.2.length = lm.length ∧ i.2.drop i.1 = lm.drop i.1) (fun i => lm.length - i.1) ((0, lm)) (⟨Nat.zero_le _, rfl, rfl⟩) ⟨rfl, trivial⟩ ⟨rfl, trivial⟩ ow ?_
  rintro ⟨i, l⟩ ⟨hi1, hi2, hi3⟩ ρh
  dsimp only at hi1 hi2 hi3 ⊢
  refine wS $ wS $ wR $ zI rfl $ zS rfl $ sv (vlen Tryz.underlying41 rfl) $ sv (vlt rfl rfl) $ wN $ tN $ ?_
  refine WC.ite rfl (fun h15 => ?_) (fun h15 => ?_)
  ·
   have him : i < lm.length := by omega
   obtain ⟨m, hm⟩ : ∃ m, lm[i]? = some m := ⟨_, List.getElem?_eq_getElem him⟩
   have hlm : l[i]? = some m := by have := congrArg (fun q => q[0]?) hi3; simpa [hm] using this
   have hdm : lm.drop i = m :: lm.drop (i + 1) := by rw [List.drop_eq_getElem_cons him, (List.getElem?_eq_some_iff.1 hm).2]
   have hlv := mvs_length l
   have hpos : 0 < (mvs l).length := by omega
   have hf8 : (mvs l)[((i : Int)).toNat * 9 + 8]? = some (.slice m.cs.base m.cs.xs.length m.cs.cap) := by rw [Int.toNat_natCast, mvs_at hlm (by omega)]; rfl
   have hmm := hcl2 m (List.mem_of_getElem? hm)
   rw [hdm]
   refine WC.perm (A' := row lb lc 9 85 (mvs l) :: row m.cs.base m.cs.cap 2 89 (cvs m.cs.xs) :: mrows (lm.drop (i + 1)) :: hc p S :: rL M r b A) ?_ (fun w h => (Own.star h.pk1).ix [2, 0, 1])
   refine WC.skip $ tN $ wS $ WC.block $ wS $ wS $ wR $ yI rfl $ wN $ tN $ WC.block $ ?_
   refine WC.loop (ι := Nat × List Cl) (fun j => [(12, .int .i64 j.1)]) [(10, .slice _ _ _), (11, .int _ _)] (fun j => row lb lc 9 85 (mvs l) :: row m.cs.base m.cs.cap 2 89 (cvs j.2) :: mrows (lm.drop (i + 1)) :: hc p S :: rL M r b A) (fun j => j.1 ≤ m.cs.xs.length ∧ j.2.length = m.cs.xs.length) (fun j => m.cs.xs.length - j.1) ((0, m.cs.xs)) (⟨by omega, rfl⟩) ⟨rfl, trivial⟩ ⟨rfl, rfl, trivial⟩ ow ?_
   rintro ⟨k, xs⟩ ⟨hk1, hk2⟩ ρh
   dsimp only at hk1 hk2 ⊢
   have hxl := cvs_length xs
   refine WC.known (fun w h => rsome (base := lb) hpos (RdC.of_row (List.Mem.head _)) h) fun hb => ?_
   refine wS $ wS $ wR $ zI rfl $ zS rfl $ zI rfl $ sv (vix Tryz.underlying41 sz85 rfl rfl (by omega) (by omega) reads hpos) $ sv (vfldr (hb) fl85f8 rfl) $ sv (vldo pl54 rfl reads (hf8)) $ sv (vlen Tryz.underlying54 rfl) $ sv (vlt rfl rfl) $ wN $ tN $ ?_
   refine WC.ite rfl (fun h16 => ?_) (fun h16 => ?_)
   ·
    have hpos2 : 0 < (cvs xs).length := by omega
    exact WC.skip $ tN $ wS $ WC.block $ wR $ zS rfl $ zI rfl $ sv (vix Tryz.underlying41 sz85 rfl rfl (by omega) (by omega) reads hpos) $ sv (vfldr (hb) fl85f8 rfl) $ sv (vldo pl54 rfl reads (hf8)) $ zI rfl $ sv (vbd (ps := [(1, (.string (ByteArray.mk #[103, 111, 110, 101])))]) (cs := [_, _]) bt89 zt89 rfl (by rfl)) $ sv (vix Tryz.underlying54 sz89 rfl rfl (by omega) (by omega) reads hpos2) $ staRp (vs' := cvs (xs.set k goneC)) sz89 rfl rfl rfl rfl (by decide) (by show ((k : Int)).toNat * 2 + 2 ≤ _; omega) (by rw [Int.toNat_natCast]; exact cvs_set (l := xs) (i := k) (c := goneC) (by omega)) $ wN $ WX.blockN $ tN $ wR $ zI rfl $ sv (vadd rfl rfl (by omega)) $ yI rfl $ wN $ WX.again ((k + 1, xs.set k goneC)) (⟨by omega, by rw [List.length_set]; exact hk2⟩) (by omega) ⟨rfl, trivial⟩ ⟨rfl, rfl, trivial⟩ ow
   ·
    exact WC.exit $ WX.thenE $ WX.thenE $ WX.blockH $ tN $ wR $ zS rfl $ zI rfl $ sv (vbd (ps := []) (cs := [_, _, _, _, _, _, _, _, _]) bt85 zt85 rfl (by rfl)) $ sv (vix Tryz.underlying41 sz85 rfl rfl (by omega) (by omega) reads hpos) $ staRp (vs' := mvs (l.set i zeroM)) sz85 rfl rfl rfl rfl (by decide) (by show ((i : Int)).toNat * 9 + 9 ≤ _; omega) (by rw [Int.toNat_natCast]; exact mvs_set (l := l) (i := i) (m := zeroM) (by omega)) $ wN $ WX.blockN $ tN $ wR $ zI rfl $ sv (vadd rfl rfl (by omega)) $ yI rfl $ wN $ WX.again ((i + 1, l.set i zeroM)) (⟨by omega, by rw [List.length_set]; exact hi2, by rw [List.drop_set_of_lt (by omega)]; have := congrArg (List.drop 1) hi3; simpa [List.drop_drop] using this⟩) (by omega) ⟨rfl, trivial⟩ ⟨rfl, trivial⟩ ow
  ·
   exact WC.exit $ WX.thenE $ WX.thenE $ WX.blockH $ tN $ wS $ wR $ yB rfl $ wN $ tN $ WC.ret $ xR rfl (()) (trivial) rfl (fun w h => by have h4 : Own w0 (rL M r b (hc p S :: A)) w := Sb.o h; exact (rc_mk (A := hc p S :: A) hcw h4).pk1)
end Go.Proofs.YtigjompojlhomaaGreat
end
section
set_option linter.unusedVariables false
set_option linter.unusedSimpArgs false
set_option maxRecDepth 4000
namespace Go.Council
open Go.Raft Go.Journal Go.Pack Go.Sl Go.Proofs.YtigjompojlhomaaGreat
theorem add_calm {st : DSt} {all b : List UInt8} {n : Int} (h : Fz st lnm all n) (hf : st.fuse = 0) (hb : all.length + (b.length + 8) ≤ 16777216) : (addP lnm b st).2 = 0 ∧ (addP lnm b st).1.fuse = 0 := by
 have hfl : (all ++ frameB b).length = all.length + (b.length + 8) := by rw [List.length_append, frameB_len]
 have ha := appendS_eq (b := frameB b) h.off lnm_ok (V := (all ++ frameB b, all.length)) (n := all.length + (b.length + 8)) (by unfold appendV; rw [h.file]) hfl
 rw [if_pos hb, if_neg (by omega)] at ha
 have hs : syncS lnm { st with deeds := st.deeds + 1, fuse := max (st.fuse - 1) 0, files := putV lnm (all ++ frameB b, all.length) st.files } = deedS (putV lnm (all ++ frameB b, (all ++ frameB b).length)) id { st with deeds := st.deeds + 1, fuse := max (st.fuse - 1) 0, files := putV lnm (all ++ frameB b, all.length) st.files } := by
  unfold syncS
  rw [if_neg (by dsimp only; rw [h.off]; decide)]
  simp [putV]
 rw [deedS_eq, if_neg (by dsimp only; omega)] at hs
 have hp : addP lnm b st = syncS lnm { st with deeds := st.deeds + 1, fuse := max (st.fuse - 1) 0, files := putV lnm (all ++ frameB b, all.length) st.files } := by
  unfold addP; rw [ha, if_pos rfl]
 rw [hp, hs]
 exact ⟨rfl, by dsimp only; omega⟩
theorem add_two {st : DSt} {all b : List UInt8} {n : Int} (h : Fz st lnm all n) (hf : st.fuse = 2) (hk : st.keep = 0) (hb : all.length + (b.length + 8) ≤ 16777216) : (addP lnm b st).2 = 20 ∧ (addP lnm b st).1.files lnm = some (all, all.length) := by
 have hfl : (all ++ frameB b).length = all.length + (b.length + 8) := by rw [List.length_append, frameB_len]
 have ha := appendS_eq (b := frameB b) h.off lnm_ok (V := (all ++ frameB b, all.length)) (n := all.length + (b.length + 8)) (by unfold appendV; rw [h.file]) hfl
 rw [if_pos hb, if_neg (by omega)] at ha
 have hs : syncS lnm { st with deeds := st.deeds + 1, fuse := max (st.fuse - 1) 0, files := putV lnm (all ++ frameB b, all.length) st.files } = deedS (putV lnm (all ++ frameB b, (all ++ frameB b).length)) id { st with deeds := st.deeds + 1, fuse := max (st.fuse - 1) 0, files := putV lnm (all ++ frameB b, all.length) st.files } := by
  unfold syncS
  rw [if_neg (by dsimp only; rw [h.off]; decide)]
  simp [putV]
 rw [deedS_eq, if_pos (by dsimp only; omega)] at hs
 have hp : addP lnm b st = syncS lnm { st with deeds := st.deeds + 1, fuse := max (st.fuse - 1) 0, files := putV lnm (all ++ frameB b, all.length) st.files } := by
  unfold addP; rw [ha, if_pos rfl]
 rw [hp, hs]
 refine ⟨rfl, ?_⟩
 dsimp only
 unfold offS
 rw [if_neg (by dsimp only; rw [h.off]; decide)]
 dsimp only
 rw [show id (putV lnm (all ++ frameB b, all.length) st.files) lnm = some (all ++ frameB b, all.length) by simp [putV]]
 show some (offV st.keep (all ++ frameB b, all.length)) = _
 unfold offV keptOf
 dsimp only
 rw [hk]
 simp
abbrev NS := List Rn × List Ml
def stepN (j : Nat) (f : Rn → Rn × List Ml) (q : NS) : NS := match q.1[j]? with
 | none => q
 | some x => (q.1.set j (f x).1, sendM q.2 (f x).2)
structure Calm (S : CS) (q : NS) : Prop where
 nodes : S.ms.map Mg.node = q.1.map some
 mails : S.mails = q.2
 fuse : ∀ m ∈ S.ms, m.st.fuse = 0
theorem Calm.at_ {S : CS} {q : NS} (h : Calm S q) {j : Nat} {x : Rn} (hx : q.1[j]? = some x) : ∃ m, S.ms[j]? = some m ∧ m.node = some x := by
 have h1 : (S.ms.map Mg.node)[j]? = (q.1.map some)[j]? := by rw [h.nodes]
 rw [List.getElem?_map, List.getElem?_map, hx] at h1
 cases hm : S.ms[j]? with
 | none => rw [hm] at h1; cases h1
 | some m => rw [hm] at h1; exact ⟨m, rfl, Option.some.inj h1⟩
theorem Calm.len {S : CS} {q : NS} (h : Calm S q) : S.ms.length = q.1.length := by have := congrArg List.length h.nodes; simpa using this
theorem Calm.step {K : Nat} {S : CS} {g : Gh} {q : NS} {j : Nat} {f : Rn → Rn × List Ml} {mails : List Ml} (h : CI K S g) (hK : K ≤ 400) (hc : Calm S q) (hj : j < q.1.length)
  (hf : ∀ x : Rn, RInv x → RInv (f x).1 ∧ (f x).1.n = x.n ∧ Wr x.log (f x).1.log) : Calm (Council.stepC j f ⟨S.ms, mails⟩).1 (stepN j f (q.1, mails)) := by
 obtain ⟨x, hx⟩ : ∃ x, q.1[j]? = some x := ⟨_, List.getElem?_eq_getElem hj⟩
 obtain ⟨m, hm, hmn⟩ := hc.at_ hx
 have hg := h.mg j m hm
 obtain ⟨g1, g2, g3, g4, g5⟩ := hg.up x hmn
 obtain ⟨f1, f2, f3⟩ := hf x g2
 have hn := h.n
 have hrec := rec_of hg hmn f1 (by omega) f3
 have hl := hrec.len
 obtain ⟨all, a1, a2, a3, a4⟩ := hg.file
 have hz : Fz m.st lnm all (3 * K) := ⟨g1, hg.fuse, hg.deeds, a1⟩
 have hfu := hc.fuse m (List.mem_of_getElem? hm)
 obtain ⟨y, out, hy⟩ : ∃ y out, f x = (y, out) := ⟨_, _, rfl⟩
 rw [hy] at hl hrec
 dsimp only at hl hrec
 have hst : (stepM x y m).2 = true ∧ (stepM x y m).1.node = some y ∧ (stepM x y m).1.st.fuse = 0 := by
  unfold stepM
  split
  ·exact ⟨rfl, rfl, hfu⟩
  ·obtain ⟨b1, b2⟩ := add_calm (b := (chg (stOf x) (stOf y)).bytes) hz hfu (by omega)
   unfold saveS
   rw [if_pos b1]
   exact ⟨rfl, rfl, b2⟩
 have e1 : Council.stepC j f ⟨S.ms, mails⟩ = (⟨S.ms.set j (stepM x y m).1, sendM mails out⟩, true) := by
  unfold Council.stepC
  dsimp only
  rw [hm]
  dsimp only
  rw [hmn]
  dsimp only
  rw [hy]
  dsimp only
  rw [hst.1, if_pos rfl]
 have e2 : stepN j f (q.1, mails) = (q.1.set j y, sendM mails out) := by
  unfold stepN
  dsimp only
  rw [hx]
  dsimp only
  rw [hy]
 rw [e1, e2]
 refine ⟨?_, rfl, fun m' hm' => ?_⟩
 ·dsimp only
  rw [List.map_set, hst.2.1, hc.nodes, List.map_set]
 ·rcases List.mem_or_eq_of_mem_set hm' with h1 | h1
  ·exact hc.fuse m' h1
  ·rw [h1]; exact hst.2.2
theorem Calm.tick {K : Nat} {S : CS} {g : Gh} {q : NS} {j : Nat} (h : CI K S g) (hK : K ≤ 400) (hc : Calm S q) (hj : j < q.1.length) : Calm (actC 1 ((j : Int) + 1) 0 0 S).1 (stepN j tickS q) ∧ (actC 1 ((j : Int) + 1) 0 0 S).2 = 0 := by
 have hl := hc.len
 obtain ⟨m, hm⟩ : ∃ m, S.ms[j]? = some m := ⟨_, List.getElem?_eq_getElem (by omega)⟩
 have e : actC 1 ((j : Int) + 1) 0 0 S = ((Council.stepC j tickS S).1, 0) := by
  unfold actC
  rw [if_neg (by decide), if_pos (by omega), show ((j : Int) + 1 - 1).toNat = j by omega, hm]
  dsimp only
  rw [if_pos rfl]
 rw [e]
 have h1 := Calm.step (mails := S.mails) (f := tickS) h hK hc hj fun x hx => ⟨hx.tick, (tick_id x).2.1, tick_wr x⟩
 have e2 : (q.1, S.mails) = q := by rw [hc.mails]
 rw [e2] at h1
 exact ⟨h1, rfl⟩
theorem Calm.mail {K : Nat} {S : CS} {g : Gh} {q : NS} {n j : Nat} {m : Ml} (h : CI K S g) (hK : K ≤ 400) (hc : Calm S q) (hm : q.2[n]? = some m) (hj : m.to_ = (j : Int) + 1) (hjl : j < q.1.length) : Calm (actC 2 0 n 0 S).1 (stepN j (fun x => takeS x m) (q.1, q.2.eraseIdx n)) ∧ (actC 2 0 n 0 S).2 = 0 := by
 have hn : n < S.mails.length := by rw [hc.mails]; exact (List.getElem?_eq_some_iff.1 hm).1
 have hg : S.mails.getD n ⟨0, 0, 0, 0, 0, 0, 0, false, []⟩ = m := by rw [hc.mails, List.getD_eq_getElem?_getD, hm]; rfl
 have e : actC 2 0 n 0 S = ((Council.stepC j (fun x => takeS x m) ⟨S.ms, S.mails.eraseIdx n⟩).1, 0) := by
  unfold actC
  rw [if_pos (by decide), if_pos (by omega), Int.toNat_natCast]
  dsimp only
  rw [hg, hj, if_neg (show ¬ (2 : Int) = 4 by decide), if_neg (show ¬ (2 : Int) = 3 by decide), if_pos (show (1 : Int) ≤ (j : Int) + 1 by omega), show ((j : Int) + 1 - 1).toNat = j by omega]
 rw [e, hc.mails]
 exact ⟨Calm.step (mails := q.2.eraseIdx n) (f := fun x => takeS x m) h hK hc hjl fun x hx => ⟨hx.take, (Kin.take x m).more.2.1, take_wr x m⟩, rfl⟩
def tkS : Nat → CS
 | 0 => freshC 3
 | k + 1 => (actC 1 1 0 0 (tkS k)).1
def tkN : Nat → NS
 | 0 => ([newR 1 3 0 0 [], newR 2 3 0 0 [], newR 3 3 0 0 []], [])
 | k + 1 => stepN 0 tickS (tkN k)
theorem tkN_len : ∀ k, (tkN k).1.length = 3
 | 0 => rfl
 | k + 1 => by
  show (stepN 0 tickS (tkN k)).1.length = 3
  unfold stepN
  split
  ·exact tkN_len k
  ·dsimp only; rw [List.length_set]; exact tkN_len k
theorem tk_all : ∀ k, k ≤ 13 → (∃ g, CI k (tkS k) g) ∧ Calm (tkS k) (tkN k)
 | 0, _ => ⟨⟨gh0, CI.fresh (by decide) (by decide)⟩, ⟨rfl, rfl, fun m hm => by
   obtain ⟨i, hi⟩ := List.mem_iff_getElem?.1 hm
   obtain ⟨rfl, _⟩ := freshC_at hi
   rfl⟩⟩
 | k + 1, hk => by
  obtain ⟨⟨g, h1⟩, h2⟩ := tk_all k (by omega)
  obtain ⟨g', _, h3⟩ := h1.act (k := 1) (i := 1) (n := 0) (keep := 0) (by omega) (by decide)
  exact ⟨⟨g', h3⟩, (Calm.tick (j := 0) h1 (by omega) h2 (by rw [tkN_len]; decide)).1⟩
theorem tk_ans (k : Nat) (hk : k ≤ 13) : (actC 1 1 0 0 (tkS k)).2 = 0 := by
 obtain ⟨⟨g, h1⟩, h2⟩ := tk_all k hk
 exact (Calm.tick (j := 0) h1 (by omega) h2 (by rw [tkN_len]; decide)).2
def mlA : Ml := (tkN 13).2.getD 0 ⟨0, 0, 0, 0, 0, 0, 0, false, []⟩
def aN1 : NS := stepN 1 (fun x => takeS x mlA) ((tkN 13).1, (tkN 13).2.eraseIdx 0)
def mlB : Ml := aN1.2.getD 1 ⟨0, 0, 0, 0, 0, 0, 0, false, []⟩
def aN2 : NS := stepN 0 (fun x => takeS x mlB) (aN1.1, aN1.2.eraseIdx 1)
def nodeQ (q : NS) : Rn := q.1.getD 0 (newR 0 0 0 0 [])
theorem ex_n : (tkN 13).2.length = 2 := by decide +kernel
theorem ex_a : mlA.to_ = 2 := by decide +kernel
theorem ex_b : mlB.to_ = 1 := by decide +kernel
theorem ex_bl : aN1.2.length = 2 := by decide +kernel
theorem ex_l1 : aN1.1.length = 3 := by decide +kernel
theorem ex_l2 : aN2.1.length = 3 := by decide +kernel
theorem ex_role : (nodeQ aN2).role = 2 := by decide +kernel
theorem ex_log : (nodeQ aN2).log.length = 1 := by decide +kernel
def aS1 : CS := (actC 2 0 0 0 (tkS 13)).1
def aS2 : CS := (actC 2 0 1 0 aS1).1
def aS3 : CS := (actC 5 1 2 0 aS2).1
abbrev xB : ByteArray := ⟨#[120]⟩
def aS4 : CS := (propC 1 xB aS3).1
def aS5 : CS := (actC 7 1 0 0 aS4).1
theorem getD_at {l : List Ml} {n : Nat} {d : Ml} (h : n < l.length) : l[n]? = some (l.getD n d) := by rw [List.getD_eq_getElem?_getD, List.getElem?_eq_getElem h]; rfl
theorem ex1 : (∃ g, CI 14 aS1 g) ∧ Calm aS1 aN1 ∧ (actC 2 0 0 0 (tkS 13)).2 = 0 := by
 obtain ⟨⟨g, h1⟩, h2⟩ := tk_all 13 (by decide)
 obtain ⟨g', _, h3⟩ := h1.act (k := 2) (i := 0) (n := 0) (keep := 0) (by decide) (by decide)
 have h4 := Calm.mail (n := 0) (j := 1) (m := mlA) h1 (by decide) h2 (getD_at (by rw [ex_n]; decide)) ex_a (by rw [tkN_len]; decide)
 exact ⟨⟨g', h3⟩, h4.1, h4.2⟩
theorem ex2 : (∃ g, CI 15 aS2 g) ∧ Calm aS2 aN2 ∧ (actC 2 0 1 0 aS1).2 = 0 := by
 obtain ⟨⟨g, h1⟩, h2, _⟩ := ex1
 obtain ⟨g', _, h3⟩ := h1.act (k := 2) (i := 0) (n := 1) (keep := 0) (by decide) (by decide)
 have h4 := Calm.mail (n := 1) (j := 0) (m := mlB) h1 (by decide) h2 (getD_at (by rw [ex_bl]; decide)) ex_b (by rw [ex_l1]; decide)
 exact ⟨⟨g', h3⟩, h4.1, h4.2⟩
theorem ex3 : (∃ g, CI 16 aS3 g) ∧ aS3.ms.length = 3 ∧ ∃ m : Mg, aS3.ms[0]? = some m ∧ m.node = some (nodeQ aN2) ∧ m.st.fuse = 2 ∧ m.st.keep = 0 := by
 obtain ⟨⟨g, h1⟩, h2, _⟩ := ex2
 obtain ⟨g', _, h3⟩ := h1.act (k := 5) (i := 1) (n := 2) (keep := 0) (by decide) (by decide)
 have hl := h2.len
 rw [ex_l2] at hl
 obtain ⟨m, hm, hmn⟩ := h2.at_ (j := 0) (x := nodeQ aN2) (by unfold nodeQ; rw [List.getD_eq_getElem?_getD, List.getElem?_eq_getElem (by rw [ex_l2]; decide)]; rfl)
 have e : aS3 = putM aS2 0 ⟨{ m.st with fuse := 2, keep := 0 }, m.node, m.rs⟩ := by
  unfold aS3 actC
  rw [if_neg (by decide), if_pos (by omega), show ((1 : Int) - 1).toNat = 0 by decide, hm]
  rfl
 refine ⟨⟨g', h3⟩, ?_, ⟨{ m.st with fuse := 2, keep := 0 }, m.node, m.rs⟩, ?_, hmn, rfl, rfl⟩
 ·rw [e]; unfold putM; rw [List.length_set]; exact hl
 ·rw [e]; unfold putM; rw [List.getElem?_set_self (by omega)]
theorem stab_log {s : St} {x : Rn} (h : stOf x = s) : s.log = x.log := by rw [← h]; rfl
theorem ex4 : (∃ g, CI 17 aS4 g) ∧ aS4.ms.length = 3 ∧ (propC 1 xB aS3).2.2 = 20 ∧ ∃ m : Mg, aS4.ms[0]? = some m ∧ m.node = none ∧ m.st.fuse = 0 ∧ (stab m.rs).log.length = 1 := by
 obtain ⟨⟨g, h1⟩, hl, m, hm, hmn, hfu, hke⟩ := ex3
 obtain ⟨g', _, h3⟩ := h1.prop (i := 1) (d := xB) (by decide)
 have hg := h1.mg 0 m hm
 obtain ⟨x, hx⟩ : ∃ x, x = nodeQ aN2 := ⟨_, rfl⟩
 have hrole : x.role = 2 := by rw [hx]; exact ex_role
 have hlog : x.log.length = 1 := by rw [hx]; exact ex_log
 rw [← hx] at hmn
 obtain ⟨g1, g2, g3, g4, g5⟩ := hg.up x hmn
 have hpe : proposeE x xB = 0 := by
  unfold proposeE
  rw [if_neg (by decide), if_neg (by rw [hrole]; decide), if_neg (by omega)]
 obtain ⟨y, out, hy⟩ : ∃ y out, proposeS x xB = (y, out) := ⟨_, _, rfl⟩
 have hyl : y.log = x.log ++ [⟨x.term, xB⟩] := by have : (proposeS x xB).1.log = x.log ++ [⟨x.term, xB⟩] := rfl; rw [hy] at this; exact this
 have hyi : RInv y := by have := g2.propose (d := xB) hrole (by omega) (by decide); rw [hy] at this; exact this
 have hyn : y.n = x.n := by have : (proposeS x xB).1.n = x.n := rfl; rw [hy] at this; exact this
 have hw : Wr x.log y.log := by rw [hyl]; exact Wr.add _ _
 have hne : ¬ stOf y = stOf x := fun e => by
  have := congrArg (fun s : St => s.log.length) e
  have h5 : y.log.length = x.log.length := this
  rw [hyl, List.length_append] at h5
  simp at h5
 have hn := h1.n
 have hrec := rec_of hg hmn hyi (by omega) hw
 have hrl := hrec.len
 obtain ⟨all, a1, a2, a3, a4⟩ := hg.file
 have hz : Fz m.st lnm all (3 * 16) := ⟨g1, hg.fuse, hg.deeds, a1⟩
 obtain ⟨b1, b2⟩ := add_two (b := (chg (stOf x) (stOf y)).bytes) hz hfu hke (by omega)
 have hod : onDisk (addP lnm (chg (stOf x) (stOf y)).bytes m.st).1 = m.rs.length := by
  unfold onDisk
  rw [b2]
  show (recsB all).1.length = _
  rw [a2, List.length_map]
 have hsv : stepM x y m = (⟨(addP lnm (chg (stOf x) (stOf y)).bytes m.st).1, none, m.rs⟩, false) := by
  unfold stepM
  rw [if_neg hne]
  unfold saveS
  rw [if_neg (by rw [b1]; decide), if_neg (by rw [hod]; omega)]
 have hsc : Council.stepC 0 (fun x => proposeS x xB) aS3 = (⟨aS3.ms.set 0 ⟨(addP lnm (chg (stOf x) (stOf y)).bytes m.st).1, none, m.rs⟩, aS3.mails⟩, false) := by
  unfold Council.stepC
  rw [hm]
  dsimp only
  rw [hmn]
  dsimp only
  have hsv2 : stepM x (proposeS x xB).1 m = (⟨(addP lnm (chg (stOf x) (stOf y)).bytes m.st).1, none, m.rs⟩, false) := by rw [hy]; exact hsv
  rw [hsv2]
  rfl
 have hp : propC 1 xB aS3 = (⟨aS3.ms.set 0 ⟨(addP lnm (chg (stOf x) (stOf y)).bytes m.st).1, none, m.rs⟩, aS3.mails⟩, 0, 20) := by
  unfold propC
  rw [if_neg (by rw [hl]; decide), show ((1 : Int) - 1).toNat = 0 by decide, hm]
  dsimp only
  rw [hmn]
  dsimp only
  rw [if_neg (fun e => e hpe), hsc]
  rfl
 have hfz : (addP lnm (chg (stOf x) (stOf y)).bytes m.st).1.fuse = 0 := by
  rcases hz.add (b := (chg (stOf x) (stOf y)).bytes) lnm_ok (by omega) with ⟨st', e, f⟩ | ⟨st', k, e, k1, k2, f⟩
  ·rw [e] at b1; cases b1
  ·rw [e]; exact f.fuse
 have e4 : aS4 = ⟨aS3.ms.set 0 ⟨(addP lnm (chg (stOf x) (stOf y)).bytes m.st).1, none, m.rs⟩, aS3.mails⟩ := by unfold aS4; rw [hp]
 refine ⟨⟨g', h3⟩, ?_, by rw [hp], ⟨_, none, m.rs⟩, ?_, rfl, hfz, ?_⟩
 ·rw [e4]; dsimp only; rw [List.length_set]; exact hl
 ·rw [e4]; dsimp only; rw [List.getElem?_set_self (by omega)]
 ·dsimp only
  rw [stab_log g4]
  exact hlog
theorem ex5 : (∃ g, CI 18 aS5 g) ∧ aS5.ms.length = 3 ∧ ∃ (m : Mg) (z : Rn), aS5.ms[0]? = some m ∧ m.node = some z ∧ z.log.length = 1 := by
 obtain ⟨⟨g, h1⟩, hl, _, m, hm, hmn, hfu, hlg⟩ := ex4
 obtain ⟨g', _, h3⟩ := h1.act (k := 7) (i := 1) (n := 0) (keep := 0) (by decide) (by decide)
 have hg := h1.mg 0 m hm
 obtain ⟨all, a1, a2, a3, a4⟩ := hg.file
 have hz : Fz { m.st with off := false } lnm all (3 * 17) := ⟨rfl, hg.fuse, hg.deeds, a1⟩
 have hop : (openS lnm { m.st with off := false }).2 = 0 := by
  unfold openS
  rw [if_neg (show ¬ false = true from fun h => by cases h), if_neg (fun h => h lnm_ok)]
  split
  ·rfl
  ·unfold cutS
   rw [if_neg (show ¬ false = true from fun h => by cases h)]
   have hrd := hz.read
   rw [hrd]
   have hw := congrArg List.length (recsB_whole all)
   rw [List.length_append] at hw
   cases hf : m.st.files lnm with
   | none =>
    rename_i hne
    exfalso
    rw [hf] at a1
    have : all = [] := (congrArg Prod.fst a1).symm
    rw [hrd, this, recsB_nil] at hne
    exact hne rfl
   | some v =>
    rw [hf] at a1
    have hv : v = (all, all.length) := a1
    subst hv
    dsimp only
    rw [if_neg (by omega), deedS_eq, if_neg (by dsimp only; omega)]
 have hom : openM 1 3 ⟨{ m.st with off := false }, none, m.rs⟩ = ⟨(openS lnm { m.st with off := false }).1, some (newR 1 3 (stab m.rs).term (stab m.rs).vote (stab m.rs).log), m.rs⟩ := by unfold openM; dsimp only; rw [if_pos hop]
 have e5 : aS5 = putM aS4 0 ⟨(openS lnm { m.st with off := false }).1, some (newR 1 3 (stab m.rs).term (stab m.rs).vote (stab m.rs).log), m.rs⟩ := by
  unfold aS5 actC
  rw [if_neg (by decide), if_pos (by rw [hl]; decide), show ((1 : Int) - 1).toNat = 0 by decide, hm]
  dsimp only
  rw [if_neg (by decide), if_neg (by decide), if_neg (by decide), if_pos rfl, hmn, if_pos (show (none : Option Rn).isNone = true from rfl), hl]
  exact congrArg (putM aS4 0) hom
 refine ⟨⟨g', h3⟩, ?_, ⟨(openS lnm { m.st with off := false }).1, some (newR 1 3 (stab m.rs).term (stab m.rs).vote (stab m.rs).log), m.rs⟩, newR 1 3 (stab m.rs).term (stab m.rs).vote (stab m.rs).log, ?_, rfl, ?_⟩
 ·rw [e5]; unfold putM; rw [List.length_set]; exact hl
 ·rw [e5]; unfold putM; rw [List.getElem?_set_self (by omega)]
 ·exact hlg
theorem ex6 : (actC 1 4 0 0 aS5).2 = 1 := by
 obtain ⟨_, hl, _⟩ := ex5
 unfold actC
 rw [if_neg (by decide), if_neg (by rw [hl]; decide)]
end Go.Council
end
section
set_option linter.unusedVariables false
set_option linter.unusedSimpArgs false
set_option maxRecDepth 4000
namespace Go.Proofs.YtigjompojlhomaaGreat
open Go.Sl Go.RowKit Go.Raft Go.Journal Go.Pack Go.Council
variable {w0 : World} {A : List HProp}
theorem c_do_to {p K : Nat} {S S' : CS} {g : Gh} {k i n keep r : Int} (h : CI K S g) (hf : Few S) (hK : K ≤ 505) (hn : n ≤ 9223372036854775807) (e1 : (actC k i n keep S).1 = S') (e2 : (actC k i n keep S).2 = r) :
  Fun Tryz.prog w0 10 [.pointer (some ⟨p, 0, none⟩), .agg #[.int .i64 k, .int .i64 i, .int .i64 n, .int .i64 keep]] (hc p S :: A) (Ru w0 (.int .i64 r) (hc p S' :: A)) := by
 subst e1 e2
 exact c_do h.co hf hK hn
theorem c_prop_to {p K : Nat} {S S' : CS} {g : Gh} {i r e : Int} {d : ByteArray} (h : CI K S g) (hK : K ≤ 505) (e1 : (propC i d S).1 = S') (e2 : (propC i d S).2.1 = r) (e3 : (propC i d S).2.2 = e) : Fun Tryz.prog w0 8 [.pointer (some ⟨p, 0, none⟩), .int .i64 i, .string d] (hc p S :: A) (Ru w0 (.tuple #[.int .i64 r, .int .i64 e]) (hc p S' :: A)) := by
 subst e1 e2 e3
 exact c_propose h.co hK
theorem tk_few : ∀ k, Few (tkS k)
 | 0 => Few.fresh 3
 | k + 1 => (tk_few k).act
theorem few1 : Few aS1 := (tk_few 13).act
theorem few2 : Few aS2 := few1.act
theorem few3 : Few aS3 := few2.act
theorem few4 : Few aS4 := few3.prop
theorem few5 : Few aS5 := few4.act
theorem nodeOf1 {S : CS} {m : Mg} (h : S.ms[0]? = some m) : nodeOf S 1 = m.node := nodeOf_at (j := 0) h
theorem law_awake : Fun Tryz.prog w0 6 [] A (Ru w0 (.bool true) A) := by
 obtain ⟨⟨g13, k13⟩, c13⟩ := tk_all 13 (by decide)
 obtain ⟨⟨g1, k1⟩, c1, a1⟩ := ex1
 obtain ⟨⟨g2, k2⟩, c2, a2⟩ := ex2
 obtain ⟨⟨g3, k3⟩, l3, m3, n3, o3, _, _⟩ := ex3
 obtain ⟨⟨g4, k4⟩, l4, e4, m4, n4, o4, _, _⟩ := ex4
 obtain ⟨⟨g5, k5⟩, l5, m5, z5, n5, o5, zl⟩ := ex5
 have hm13 : (tkS 13).mails.length = 2 := by rw [c13.mails]; exact ex_n
 have hfew13 : ∀ m ∈ (tkS 13).mails, m.cells.length ≤ 1099511627776 := fun m hm => Nat.le_trans (tk_few 13 m hm) (by decide)
 obtain ⟨m2, hm2, hn2⟩ := c2.at_ (j := 0) (x := nodeQ aN2) (by unfold nodeQ; rw [List.getD_eq_getElem?_getD, List.getElem?_eq_getElem (by rw [ex_l2]; decide)]; rfl)
 have nd2 : nodeOf aS2 1 = some (nodeQ aN2) := by rw [nodeOf1 hm2, hn2]
 have nd4 : nodeOf aS4 1 = none := by rw [nodeOf1 n4, o4]
 have nd5 : nodeOf aS5 1 = some z5 := by rw [nodeOf1 n5, o5]
 have hx2 : RInv (nodeQ aN2) := ((k2.mg 0 m2 hm2).up _ hn2).2.1
 have hx5 : RInv z5 := ((k5.mg 0 m5 n5).up _ o5).2.1
 have w2 := k2.n.2
 have w4 := k4.n.2
 have w5 := k5.n.2
 have rl := ex_role
 have ep4 : (propC 1 xB aS3).2.1 = (propC 1 xB aS3).2.1 := rfl
 have lg := ex_log
 refine Fun.enter Tryz.func6 rfl Tryz.ntmps6 rfl ?_
 refine wS $ wR $ yB rfl $ wN $ tN $ wS $ wR $ clxo (c_new (n := 3) (by decide) (by decide)) ct5 rfl fun r1 hr1 => ?_
 refine sv vmv $ sv (vex rfl rfl) $ sv (vex rfl rfl) $ sv (vaP rfl) $ yI rfl $ wN $ tN $ wS $ ?_
 refine WC.cutS [(21, .bool (decide (False)))] [(1, .pointer _)] ⟨rfl, trivial⟩ ?_ fun ρh => ?_
 ·
  exact wR $ zP rfl $ sv (vpeqF Tryz.underlying24 rfl rfl) $ zB rfl $ svg rfl (vmI rfl) $ svg rfl (vne rfl rfl) $ uF rfl $ wN $ xM () trivial ⟨bIa, trivial⟩ ⟨rfl, trivial⟩ ow
 refine WC.ff rfl ?_
 refine WC.skip $ tN $ wS $ wS $ wR $ yI rfl $ wN $ tN $ WC.block $ ?_
 refine WC.loop (ι := Nat) (fun i => [(3, .int .i64 i)]) [(1, .pointer _)] (fun i => hc r1 (tkS i) :: A) (fun i => i ≤ 13) (fun i => 13 - i) (0) (by omega) ⟨rfl, trivial⟩ ⟨rfl, trivial⟩ ow ?_
 intro i hi ρh
 refine wS $ wS $ wR $ zI rfl $ sv (vlt rfl rfl) $ wN $ tN $ ?_
 refine WC.ite rfl (fun h2 => ?_) (fun h2 => ?_)
 ·
  obtain ⟨⟨gi, hi1⟩, ci⟩ := tk_all i (by omega)
  have hit := tk_ans i (by omega)
  refine WC.skip $ tN $ wS $ WC.block $ wS $ wR $ zP rfl $ sv (vbd (ps := [(0, (.int .i64 1)), (1, (.int .i64 1))]) (cs := [_, _, _, _]) bt32 zt32 rfl (by rfl)) $ clxo (c_do_to (S' := tkS (i + 1)) (r := 0) hi1 (tk_few i) (by omega) (by decide) rfl hit) ct10 rfl fun r4 hr4 => ?_
  refine sv (vne rfl rfl) $ wN $ tN $ ?_
  refine WC.ff rfl ?_
  exact WC.skip $ WX.blockN $ tN $ wR $ zI rfl $ sv (vadd rfl rfl (by omega)) $ yI rfl $ wN $ WX.again (i + 1) (by omega) (by omega) ⟨rfl, trivial⟩ ⟨rfl, trivial⟩ ow
 ·
  have h13e : i = 13 := by omega
  subst h13e
  refine WC.exit $ WX.thenE $ WX.thenE $ WX.blockH $ tN $ wS $ wR $ zP rfl $ clxo (c_mails k13.mails hfew13) ct15 rfl fun r6 hr6 => ?_
  have hn6 : r6.2.2.length = 2 := by have := congrArg List.length hr6.1; rw [List.length_map, hm13] at this; exact this
  refine sv (vlen Tryz.underlying41 rfl) $ yI rfl $ wN $ tN $ wS $ wR $ zP rfl $ sv (vbd (ps := [(0, (.int .i64 2)), (2, (.int .i64 0))]) (cs := [_, _, _, _]) bt32 zt32 rfl (by rfl)) $ clxo (c_do_to (S' := aS1) (r := 0) k13 (tk_few 13) (by omega) (by decide) rfl a1) ct10 rfl fun r8 hr8 => ?_
  refine yI rfl $ wN $ tN $ wS $ wR $ zP rfl $ sv (vbd (ps := [(0, (.int .i64 2)), (2, (.int .i64 1))]) (cs := [_, _, _, _]) bt32 zt32 rfl (by rfl)) $ clxo (c_do_to (S' := aS2) (r := 0) k1 few1 (by omega) (by decide) rfl a2) ct10 rfl fun r10 hr10 => ?_
  refine yI rfl $ wN $ tN $ wS $ wR $ zP rfl $ clxo (c_role_some w2 nd2) ct16 rfl fun r11 hr11 => ?_
  refine yI rfl $ wN $ tN $ wS $ wR $ zP rfl $ clxo (c_log_some w2 nd2 hx2) ct17 rfl fun r12 hr12 => ?_
  refine sv (vlen Tryz.underlying54 rfl) $ yI rfl $ wN $ tN $ wS $ wR $ zP rfl $ sv (vbd (ps := [(0, (.int .i64 5)), (1, (.int .i64 1)), (2, (.int .i64 2))]) (cs := [_, _, _, _]) bt32 zt32 rfl (by rfl)) $ clxo (c_do_to (S' := aS3) k2 few2 (by omega) (by decide) rfl rfl) ct10 rfl fun r14 hr14 => ?_
  refine wN $ tN $ wS $ wR $ zP rfl $ clxo (c_prop_to (S' := aS4) (e := 20) k3 (by omega) rfl ep4 e4) ct8 rfl fun r15 hr15 => ?_
  refine sv vmv $ sv (vex rfl rfl) $ sv (vex rfl rfl) $ yI rfl $ yI rfl $ wN $ tN $ wS $ wR $ zP rfl $ clxo (c_up_none w4 nd4) ct18 rfl fun r16 hr16 => ?_
  refine yB rfl $ wN $ tN $ wS $ wR $ zP rfl $ sv (vbd (ps := [(0, (.int .i64 7)), (1, (.int .i64 1))]) (cs := [_, _, _, _]) bt32 zt32 rfl (by rfl)) $ clxo (c_do_to (S' := aS5) k4 few4 (by omega) (by decide) rfl rfl) ct10 rfl fun r18 hr18 => ?_
  refine wN $ tN $ ?_
  refine WC.cut0 [(0, .bool (decide (True)))] [] (A) trivial ?_ fun ρh => ?_
  ·
   refine wR $ zI rfl $ svs (veq rfl rfl) (fun q1 => ?_) (fun q1 => ?_)
   ·
    refine zB rfl $ svg rfl (vmI rfl) $ svsg rfl (veq rfl rfl) (fun q2 => ?_) (fun q2 => ?_)
    ·
     refine uT rfl $ zB rfl $ svg rfl (vmI rfl) $ svsg rfl (veq rfl rfl) (fun q3 => ?_) (fun q3 => ?_)
     ·
      refine uT rfl $ zB rfl $ svg rfl (vmI rfl) $ svsg rfl (veq rfl rfl) (fun q4 => ?_) (fun q4 => ?_)
      ·
       refine uT rfl $ zB rfl $ svg rfl (vmI rfl) $ svsg rfl (veq rfl rfl) (fun q5 => ?_) (fun q5 => ?_)
       ·
        refine uT rfl $ zB rfl $ svg rfl (vmI rfl) $ svsg rfl (veq rfl rfl) (fun q6 => ?_) (fun q6 => ?_)
        ·
         refine uT rfl $ zB rfl $ svbg rfl (vmB rfl) (fun q7 => ?_) (fun q7 => ?_)
         ·
          exact svg rfl (vnot rfl) $ uT rfl $ zB rfl $ sng rfl $ sng rfl $ uF rfl $ zB rfl $ sng rfl $ sng rfl $ sng rfl $ sng rfl $ uF rfl $ zB rfl $ sng rfl $ sng rfl $ sng rfl $ sng rfl $ uF rfl $ yB rfl $ wN $ xM () trivial ⟨bFa, trivial⟩ trivial ow
         ·
          refine svg rfl (vnot rfl) $ uT rfl $ zB rfl $ svg rfl (vmP rfl) $ gy rfl $ clxo (c_up_some w5 nd5) ct18 rfl fun r19 hr19 => ?_
          refine uT rfl $ zB rfl $ svg rfl (vmP rfl) $ gy rfl $ clxo (c_log_some w5 nd5 hx5) ct17 rfl fun r20 hr20 => ?_
          refine svg rfl (vlen Tryz.underlying54 rfl) $ svsg rfl (veq rfl rfl) (fun q8 => ?_) (fun q8 => ?_)
          ·
           refine uT rfl $ zB rfl $ svg rfl (vmP rfl) $ svg rfl (vbd (ps := [(0, (.int .i64 1)), (1, (.int .i64 4))]) (cs := [_, _, _, _]) bt32 zt32 rfl (by rfl)) $ gy rfl $ clxo (c_do_to (S' := (actC 1 4 0 0 aS5).1) (r := 1) k5 few5 (by omega) (by decide) rfl ex6) ct10 rfl fun r22 hr22 => ?_
           exact svg rfl (veq rfl rfl) $ uT rfl $ yB rfl $ wN $ xM () trivial ⟨bIa, trivial⟩ trivial ow
          ·
           exact uT rfl $ zB rfl $ sng rfl $ sng rfl $ sng rfl $ sng rfl $ uF rfl $ yB rfl $ wN $ xM () trivial ⟨bFa, trivial⟩ trivial ow
        ·
         exact uT rfl $ zB rfl $ sng rfl $ sng rfl $ uF rfl $ zB rfl $ sng rfl $ sng rfl $ uF rfl $ zB rfl $ sng rfl $ sng rfl $ sng rfl $ sng rfl $ uF rfl $ zB rfl $ sng rfl $ sng rfl $ sng rfl $ sng rfl $ uF rfl $ yB rfl $ wN $ xM () trivial ⟨bFa, trivial⟩ trivial ow
       ·
        exact uT rfl $ zB rfl $ sng rfl $ sng rfl $ uF rfl $ zB rfl $ sng rfl $ sng rfl $ uF rfl $ zB rfl $ sng rfl $ sng rfl $ uF rfl $ zB rfl $ sng rfl $ sng rfl $ sng rfl $ sng rfl $ uF rfl $ zB rfl $ sng rfl $ sng rfl $ sng rfl $ sng rfl $ uF rfl $ yB rfl $ wN $ xM () trivial ⟨bFa, trivial⟩ trivial ow
      ·
       exact uT rfl $ zB rfl $ sng rfl $ sng rfl $ uF rfl $ zB rfl $ sng rfl $ sng rfl $ uF rfl $ zB rfl $ sng rfl $ sng rfl $ uF rfl $ zB rfl $ sng rfl $ sng rfl $ uF rfl $ zB rfl $ sng rfl $ sng rfl $ sng rfl $ sng rfl $ uF rfl $ zB rfl $ sng rfl $ sng rfl $ sng rfl $ sng rfl $ uF rfl $ yB rfl $ wN $ xM () trivial ⟨bFa, trivial⟩ trivial ow
     ·
      exact uT rfl $ zB rfl $ sng rfl $ sng rfl $ uF rfl $ zB rfl $ sng rfl $ sng rfl $ uF rfl $ zB rfl $ sng rfl $ sng rfl $ uF rfl $ zB rfl $ sng rfl $ sng rfl $ uF rfl $ zB rfl $ sng rfl $ sng rfl $ uF rfl $ zB rfl $ sng rfl $ sng rfl $ sng rfl $ sng rfl $ uF rfl $ zB rfl $ sng rfl $ sng rfl $ sng rfl $ sng rfl $ uF rfl $ yB rfl $ wN $ xM () trivial ⟨bFa, trivial⟩ trivial ow
    ·
     exact uT rfl $ zB rfl $ sng rfl $ sng rfl $ uF rfl $ zB rfl $ sng rfl $ sng rfl $ uF rfl $ zB rfl $ sng rfl $ sng rfl $ uF rfl $ zB rfl $ sng rfl $ sng rfl $ uF rfl $ zB rfl $ sng rfl $ sng rfl $ uF rfl $ zB rfl $ sng rfl $ sng rfl $ uF rfl $ zB rfl $ sng rfl $ sng rfl $ sng rfl $ sng rfl $ uF rfl $ zB rfl $ sng rfl $ sng rfl $ sng rfl $ sng rfl $ uF rfl $ yB rfl $ wN $ xM () trivial ⟨bFa, trivial⟩ trivial ow
   ·
    exact zB rfl $ sng rfl $ sng rfl $ uF rfl $ zB rfl $ sng rfl $ sng rfl $ uF rfl $ zB rfl $ sng rfl $ sng rfl $ uF rfl $ zB rfl $ sng rfl $ sng rfl $ uF rfl $ zB rfl $ sng rfl $ sng rfl $ uF rfl $ zB rfl $ sng rfl $ sng rfl $ uF rfl $ zB rfl $ sng rfl $ sng rfl $ uF rfl $ zB rfl $ sng rfl $ sng rfl $ sng rfl $ sng rfl $ uF rfl $ zB rfl $ sng rfl $ sng rfl $ sng rfl $ sng rfl $ uF rfl $ yB rfl $ wN $ xM () trivial ⟨bFa, trivial⟩ trivial ow
  exact WC.ret $ xR rfl (()) (trivial) rfl ow
abbrev OV := (Int × Int × Int × Int × Unit) × Bool × ByteArray × Unit
abbrev OV.i (a : OV) : Int := a.1.2.1
abbrev OV.n (a : OV) : Int := a.1.2.2.1
abbrev OV.data (a : OV) : ByteArray := a.2.2.1
abbrev ocelC (k i n keep : Int) (b : Bool) (d : ByteArray) : List Value := [.int .i64 k, .int .i64 i, .int .i64 n, .int .i64 keep, .bool b, .string d]
abbrev cellOC (a : OV) : List Value := ocelC a.1.1 a.1.2.1 a.1.2.2.1 a.1.2.2.2.1 a.2.1 a.2.2.1
def I64 (x : Int) : Prop := -9223372036854775808 ≤ x ∧ x ≤ 9223372036854775807
abbrev gO (a : OV) : Prop := I64 a.i ∧ I64 a.n
theorem rd_someO {w0 w : World} {A : List HProp} {base : Option Addr} {vs : List Value} (hp : 0 < vs.length) (hR : RdC w0 A base vs) (h : Own w0 A w) : base.isSome = true := by
 obtain ⟨a, rfl, _⟩ := hR w h 0 vs[0] (List.getElem?_eq_getElem hp)
 rfl
theorem law_small20 {o : Sla OV} {most : Int} (hmo : most ≤ 9223372036854775807) (ho : Rd w0 o.base (o.xs.flatMap cellOC)) :
  Fun Tryz.prog w0 4 [.slice o.base o.xs.length o.cap, .int .i64 most] A (Ru w0 (.bool (decide ((o.xs.length : Int) ≤ most ∧ ∀ a ∈ o.xs, a.data.size ≤ 5000))) A) := by
 have hfl : (o.xs.flatMap cellOC).length = o.xs.length * 6 := flat_len (fun _ _ => rfl)
 refine Fun.enter Tryz.func4 rfl Tryz.ntmps4 rfl ?_
 refine wS $ wR $ yB rfl $ wN $ tN $ wS $ wS $ wR $ zS rfl $ sv (vlen Tryz.underlying22 rfl) $ zI rfl $ sv (vgt rfl rfl) $ wN $ tN $ ?_
 refine WC.ite rfl (fun h1 => ?_) (fun h1 => ?_)
 ·
  exact wS $ wR $ yB rfl $ wN $ tN $ WC.ret $ tR $ xR rfl (()) (trivial) (bF (fun h => by omega)) ow
 ·
  refine WC.skip $ tN $ wS $ wS $ wR $ yI rfl $ wN $ tN $ WC.block $ ?_
  refine WC.loopS (ι := Nat) (fun i => [(5, .int .i64 i)]) [(0, .slice _ _ _)] (fun i => i ≤ o.xs.length ∧ ∀ a ∈ o.xs.take i, a.data.size ≤ 5000) (fun i => o.xs.length - i) (0) (⟨Nat.zero_le _, fun a h => by rw [List.take_zero] at h; cases h⟩) ⟨rfl, trivial⟩ ⟨rfl, trivial⟩ ?_
  intro i hi ρh
  refine wS $ wS $ wR $ zI rfl $ zS rfl $ sv (vlen Tryz.underlying22 rfl) $ sv (vlt rfl rfl) $ wN $ tN $ ?_
  refine WC.ite rfl (fun h2 => ?_) (fun h2 => ?_)
  ·
   have hil : i < o.xs.length := by omega
   obtain ⟨a, ha⟩ : ∃ a, o.xs[i]? = some a := ⟨_, List.getElem?_eq_getElem hil⟩
   have hpos : 0 < (o.xs.flatMap cellOC).length := by omega
   have hf2 : (o.xs.flatMap cellOC)[((i : Int)).toNat * 6 + 5]? = some (.string a.data) := by rw [Int.toNat_natCast, flat_at (f := cellOC) (s := 6) (fun _ _ => rfl) hil (by omega), (List.getElem?_eq_some_iff.1 ha).2]; rfl
   have hRi : Reads w0 A o.base (o.xs.flatMap cellOC) := ⟨RdC.old ho⟩
   refine WC.known (fun w h => rd_someO hpos hRi.rd h) fun hb => ?_
   refine WC.skip $ tN $ wS $ WC.block $ wS $ wR $ zS rfl $ zI rfl $ sv (vix Tryz.underlying22 sz34 rfl rfl (by omega) (by omega) reads (hpos)) $ sv (vfldr (hb) fl34f2 rfl) $ sv (vldo pl9 rfl reads (hf2)) $ sv (vlens Tryz.underlying9 rfl) $ sv (vgt rfl rfl) $ wN $ tN $ ?_
   refine WC.ite rfl (fun h3 => ?_) (fun h3 => ?_)
   ·
    exact wS $ wR $ yB rfl $ wN $ tN $ WC.ret $ WX.blockR $ tR $ tR $ WX.blockR $ tR $ xR rfl (()) (trivial) (bF (fun h => by have := h.2 a (List.mem_of_getElem? ha); omega)) ow
   ·
    exact WC.skip $ WX.blockN $ tN $ wR $ zI rfl $ sv (vadd rfl rfl (by omega)) $ yI rfl $ wN $ WX.again (i + 1) (⟨by omega, fun c hc => by rw [List.take_add_one, ha] at hc; exact (List.mem_append.1 hc).elim (hi.2 c) (fun hc => by have : c = a := (by simpa using hc); subst this; omega)⟩) (by omega) ⟨rfl, trivial⟩ ⟨rfl, trivial⟩ ow
  ·
   exact WC.exit $ WX.thenE $ WX.thenE $ WX.blockH $ tN $ wS $ wR $ yB rfl $ wN $ tN $ WC.ret $ xR rfl (()) (trivial) (bT ⟨by omega, by have := hi.2; rwa [List.take_of_length_le (by omega)] at this⟩) ow
theorem law_does20 {n : Int} {o : Sla OV} (hn : I64 n) (ho : Rd w0 o.base (o.xs.flatMap cellOC)) (hx : ∀ a ∈ o.xs, gO a) :
  Fun Tryz.prog w0 3 [.int .i64 n, .slice o.base o.xs.length o.cap] A (Ru w0 (.bool true) A) := by
 have hfl : (o.xs.flatMap cellOC).length = o.xs.length * 6 := flat_len (fun _ _ => rfl)
 refine Fun.enter Tryz.func3 rfl Tryz.ntmps3 rfl ?_
 refine wS $ wR $ yB rfl $ wN $ tN $ wS $ wS $ wR $ zS rfl $ clxo (law_small20 (by decide) ho) ct4 rfl fun r1 hr1 => ?_
 refine sv (vnot rfl) $ wN $ tN $ ?_
 refine WC.iteb rfl (fun h1 => ?_) (fun h1 => ?_)
 ·
  exact wS $ wR $ yB rfl $ wN $ tN $ WC.ret $ tR $ xR rfl (()) (trivial) rfl ow
 ·
  have hsm : (o.xs.length : Int) ≤ 250 ∧ ∀ a ∈ o.xs, a.data.size ≤ 5000 := by simpa using h1
  by_cases hn5 : n < 1 ∨ 5 < n
  ·
   refine WC.skip $ tN $ wS $ wR $ zI rfl $ clxo (c_new_no hn5) ct5 rfl fun r2 hr2 => ?_
   refine sv vmv $ sv (vex rfl rfl) $ sv (vex rfl rfl) $ sv (vaP rfl) $ yI rfl $ wN $ tN $ wS $ ?_
   refine WC.cutS [(27, .bool (decide (True)))] [(0, .int _ _), (1, .slice _ _ _), (5, .pointer _), (6, .int _ _)] ⟨rfl, rfl, rfl, rfl, trivial⟩ ?_ fun ρh => ?_
   ·
    refine wR $ zI rfl $ svs (vlt rfl rfl) (fun q1 => ?_) (fun q1 => ?_)
    ·
     exact zB rfl $ sng rfl $ sng rfl $ uT rfl $ wN $ xM () trivial ⟨bTa, trivial⟩ ⟨rfl, rfl, rfl, rfl, trivial⟩ ow
    ·
     exact zB rfl $ svg rfl (vmI rfl) $ svg rfl (vgt rfl rfl) $ uF rfl $ wN $ xM () trivial ⟨bI ⟨fun _ => trivial, fun _ => by omega⟩, trivial⟩ ⟨rfl, rfl, rfl, rfl, trivial⟩ ow
   refine WC.tt rfl ?_
   refine WC.cutS [(4, .bool (decide (True)))] [] trivial ?_ fun ρh => ?_
   ·
    refine wR $ clxo (law_awake) ct6 rfl fun r3 hr3 => ?_
    exact zB rfl $ svg rfl (vmP rfl) $ svg rfl (vpeqT Tryz.underlying24 rfl rfl) $ uT rfl $ zB rfl $ svg rfl (vmI rfl) $ svg rfl (veq rfl rfl) $ uT rfl $ yB rfl $ wN $ xM () trivial ⟨bIa, trivial⟩ trivial ow
   exact WC.ret $ tR $ xR rfl (()) (trivial) rfl ow
  ·
   obtain ⟨N, rfl⟩ : ∃ N : Nat, n = (N : Int) := ⟨n.toNat, by omega⟩
   refine WC.skip $ tN $ wS $ wR $ zI rfl $ clxo (c_new (n := N) (by omega) (by omega)) ct5 rfl fun r2 hr2 => ?_
   refine sv vmv $ sv (vex rfl rfl) $ sv (vex rfl rfl) $ sv (vaP rfl) $ yI rfl $ wN $ tN $ wS $ ?_
   refine WC.cutS [(27, .bool (decide (False)))] [(0, .int _ _), (1, .slice _ _ _), (5, .pointer _), (6, .int _ _)] ⟨rfl, rfl, rfl, rfl, trivial⟩ ?_ fun ρh => ?_
   ·
    refine wR $ zI rfl $ svs (vlt rfl rfl) (fun q2 => ?_) (fun q2 => ?_)
    ·
     exact zB rfl $ sng rfl $ sng rfl $ uT rfl $ wN $ xM () trivial ⟨bTa, trivial⟩ ⟨rfl, rfl, rfl, rfl, trivial⟩ ow
    ·
     exact zB rfl $ svg rfl (vmI rfl) $ svg rfl (vgt rfl rfl) $ uF rfl $ wN $ xM () trivial ⟨bI ⟨fun h => by omega, False.elim⟩, trivial⟩ ⟨rfl, rfl, rfl, rfl, trivial⟩ ow
   refine WC.ff rfl ?_
   refine WC.skip $ tN $ wS $ ?_
   refine WC.cutS [(42, .bool (decide (False)))] [(0, .int _ _), (1, .slice _ _ _), (5, .pointer _)] ⟨rfl, rfl, rfl, trivial⟩ ?_ fun ρh => ?_
   ·
    exact wR $ zP rfl $ sv (vpeqF Tryz.underlying24 rfl rfl) $ zB rfl $ svg rfl (vmI rfl) $ svg rfl (vne rfl rfl) $ uF rfl $ wN $ xM () trivial ⟨bIa, trivial⟩ ⟨rfl, rfl, rfl, trivial⟩ ow
   refine WC.ff rfl ?_
   refine WC.skip $ tN $ wS $ wR $ zI rfl $ clxo (r_new (n := N) (by omega)) ct7 rfl fun r6 hr6 => ?_
   refine sv (vaP rfl) $ wN $ tN $ wS $ wS $ wR $ yI rfl $ wN $ tN $ WC.block $ ?_
   refine WC.loop (ι := Nat × CS) (fun i => [(8, .int .i64 i.1)]) [(1, .slice _ _ _), (5, .pointer _), (7, .pointer _)] (fun i => hc r2 i.2 :: rc i.1 r6 i.2 :: A) (fun i => i.1 ≤ o.xs.length ∧ (∃ g, CI i.1 i.2 g) ∧ Few i.2) (fun i => o.xs.length - i.1) ((0, freshC N)) (⟨Nat.zero_le _, ⟨gh0, CI.fresh (by omega) (by omega)⟩, Few.fresh N⟩) ⟨rfl, trivial⟩ ⟨rfl, rfl, rfl, trivial⟩ ow ?_
   rintro ⟨i, S⟩ ⟨hi1, ⟨g, hci⟩, hfew⟩ ρh
   dsimp only at hi1 hci hfew ⊢
   refine wS $ wS $ wR $ zI rfl $ zS rfl $ sv (vlen Tryz.underlying22 rfl) $ sv (vlt rfl rfl) $ wN $ tN $ ?_
   refine WC.ite rfl (fun h5 => ?_) (fun h5 => ?_)
   ·
    have hil : i < o.xs.length := by omega
    obtain ⟨a, ha⟩ : ∃ a, o.xs[i]? = some a := ⟨_, List.getElem?_eq_getElem hil⟩
    have hae := (List.getElem?_eq_some_iff.1 ha).2
    have hpos : 0 < (o.xs.flatMap cellOC).length := by omega
    have hag : ((o.xs.flatMap cellOC).drop (((i : Int)).toNat * 6)).take 6 = cellOC a := by rw [Int.toNat_natCast, flat_take (f := cellOC) (s := 6) (fun _ _ => rfl) hil, hae]
    have hRi : Reads w0 A o.base (o.xs.flatMap cellOC) := ⟨RdC.old ho⟩
    refine WC.known (fun w h => rd_someO hpos hRi.rd (dropL [_, _] h)) fun hb => ?_
    obtain ⟨⟨ak, ai, an, akeep, _⟩, ap, ad, _⟩ := a
    have hga := hx _ (List.mem_of_getElem? ha)
    have hga2 : an ≤ 9223372036854775807 := hga.2.2
    have hco := hci.co
    refine WC.skip $ tN $ wS $ WC.block $ wS $ wR $ zS rfl $ zI rfl $ sv (vix Tryz.underlying22 sz34 rfl rfl (by omega) (by omega) (RdC.old ho) hpos) $ sv (vlda ag34 sz34 rfl (RdC.old ho) hag rfl (by decide)) $ alz (cs := [.int .i64 0, .int .i64 0, .int .i64 0, .int .i64 0, .bool false, .string ByteArray.empty]) zt34 (by rfl) fun b9 => stAp sz34 rfl rfl rfl (by intro v hv; simp only [List.mem_cons, List.not_mem_nil, or_false] at hv; rcases hv with rfl | rfl | rfl | rfl | rfl | rfl <;> rfl) rfl $ wN $ tN $ wS $ wS $ wR $ sv (vfldp fl34f1 rfl) $ sv (vldc pl4 rfl) $ wN $ tN $ ?_
    refine WC.iteb rfl (fun h6 => ?_) (fun h6 => ?_)
    ·
     obtain ⟨g2, _, hci2⟩ := hci.prop (i := ai) (d := ad) (by omega)
     have hfew2 := hfew.prop (i := ai) (d := ad)
     refine wS $ wR $ zP rfl $ sv (vfldpz fl34f0 rfl) $ sv (vfldp fl32f1 rfl) $ sv (vldc pl3 rfl) $ sv (vfldp fl34f2 rfl) $ sv (vldc pl9 rfl) $ clxo (c_propose hco (by omega)) ct8 rfl fun r14 hr14 => ?_
     refine sv vmv $ sv (vex rfl rfl) $ sv (vex rfl rfl) $ yI rfl $ yI rfl $ wN $ tN $ wS $ wR $ zP rfl $ sv (vfldpz fl34f0 rfl) $ sv (vfldp fl32f1 rfl) $ sv (vldc pl3 rfl) $ sv (vfldp fl34f2 rfl) $ sv (vldc pl9 rfl) $ clx (by repeat' (first | with_reducible exact Sb.all | exact Sb.nil | (apply Sb.cons; focus (first | ((repeat (first | with_reducible exact Tk.here | with_reducible apply Tk.there)); done) | ((repeat (first | exact Tk.here | apply Tk.there)); done))) | apply Sb.drop)) (r_propose hco (by omega) (by omega)) ct9 rfl fun r17 hr17 => ?_
     refine sv vmv $ sv (vex rfl rfl) $ sv (vex rfl rfl) $ yI rfl $ yI rfl $ wN $ tN $ ?_
     refine WC.cutS [(84, .bool (decide (False)))] [(1, .slice _ _ _), (5, .pointer _), (7, .pointer _), (8, .int _ _)] ⟨rfl, rfl, rfl, rfl, trivial⟩ ?_ fun ρh => ?_
     ·
      refine wR $ zI rfl $ zI rfl $ svs (vne rfl rfl) (fun q3 => ?_) (fun q3 => ?_)
      ·
       exact zB rfl $ sng rfl $ sng rfl $ sng rfl $ uT rfl $ wN $ xM () trivial ⟨bTa, trivial⟩ ⟨rfl, rfl, rfl, rfl, trivial⟩ ow
      ·
       exact zB rfl $ svg rfl (vmI rfl) $ svg rfl (vmI rfl) $ svg rfl (vne rfl rfl) $ uF rfl $ wN $ xM () trivial ⟨bIa, trivial⟩ ⟨rfl, rfl, rfl, rfl, trivial⟩ ow
     refine WC.ff rfl ?_
     have hco2 := hci2.co
     refine WC.skip $ tN $ wS $ wR $ zP rfl $ zP rfl $ clxo (law_is20 hco2 hfew2) ct12 rfl fun r22 hr22 => ?_
     refine sv (vnot rfl) $ wN $ tN $ ?_
     refine WC.ff rfl ?_
     exact WC.skip $ WX.blockN $ tN $ wR $ zI rfl $ sv (vadd rfl rfl (by omega)) $ yI rfl $ wN $ WX.again ((i + 1, (propC ai ad S).1)) (⟨hil, ⟨g2, hci2⟩, hfew2⟩) (by show o.xs.length - (i + 1) < o.xs.length - i; omega) ⟨rfl, trivial⟩ ⟨rfl, rfl, rfl, trivial⟩ ow
    ·
     obtain ⟨g2, _, hci2⟩ := hci.act (k := ak) (i := ai) (n := an) (keep := akeep) (by omega) hga2
     have hfew2 := hfew.act (k := ak) (i := ai) (n := an) (keep := akeep)
     refine wS $ WC.plan (.pre [0, 1, 2] (.one [4, 5, 6] 3 (.bar [] 7 (.done [8])))) rfl (by kernel_rfl) $ WPl.preC $ dv (fun g => (vmP rfl)) $ dv (fun g => (vfldpz fl34f0 rfl)) $ dv (fun g => (vldap ag32 sz32 rfl (cs := [.int .i64 ak, .int .i64 ai, .int .i64 an, .int .i64 akeep]) rfl rfl (by decide))) $ WD.nil $ WPl.oneX [hc r2 S] (by repeat' (first | exact Spl.nil | (apply Spl.cons; focus (first | ((repeat (first | with_reducible exact Tk.here | with_reducible apply Tk.there)); done) | ((repeat (first | exact Tk.here | apply Tk.there)); done))))) (fun g => by infer_instance) ?_
     refine dv (fun g => (vmP rfl)) $ dv (fun g => (vfldpz fl34f0 rfl)) $ dv (fun g => (vldap ag32 sz32 rfl (cs := [.int .i64 ak, .int .i64 ai, .int .i64 an, .int .i64 akeep]) rfl rfl (by decide))) $ WD.eff rfl $ clxo (c_do hco hfew (by omega) hga2) ct10 rfl fun r19 hr19 => ?_
     refine wN $ WX.br $ WPl.barC $ WD.eff rfl $ clx (by repeat' (first | with_reducible exact Sb.all | exact Sb.nil | (apply Sb.cons; focus (first | ((repeat (first | with_reducible exact Tk.here | with_reducible apply Tk.there)); done) | ((repeat (first | exact Tk.here | apply Tk.there)); done))) | apply Sb.drop)) (r_do hco hfew (by omega) (by omega) hga2) ct11 rfl fun r21 hr21 => ?_
     refine wN $ WX.brT $ WPl.finC $ dv (fun g => (vne rfl rfl)) $ WD.nil $ tN $ ?_
     refine WC.ite rfl (fun h9 => ?_) (fun h9 => ?_)
     ·
      exact absurd rfl h9
     ·
      have hco2 := hci2.co
      refine WC.skip $ tN $ wS $ wR $ zP rfl $ zP rfl $ clxo (law_is20 hco2 hfew2) ct12 rfl fun r22 hr22 => ?_
      refine sv (vnot rfl) $ wN $ tN $ ?_
      refine WC.ff rfl ?_
      exact WC.skip $ WX.blockN $ tN $ wR $ zI rfl $ sv (vadd rfl rfl (by omega)) $ yI rfl $ wN $ WX.again ((i + 1, (actC ak ai an akeep S).1)) (⟨hil, ⟨g2, hci2⟩, hfew2⟩) (by show o.xs.length - (i + 1) < o.xs.length - i; omega) ⟨rfl, trivial⟩ ⟨rfl, rfl, rfl, trivial⟩ ow
   ·
    refine WC.exit $ WX.thenE $ WX.thenE $ WX.blockH $ tN $ wS $ wR $ clxo (law_awake) ct6 rfl fun r24 hr24 => ?_
    exact yB rfl $ wN $ tN $ WC.ret $ xR rfl (()) (trivial) rfl ow
end Go.Proofs.YtigjompojlhomaaGreat
end
