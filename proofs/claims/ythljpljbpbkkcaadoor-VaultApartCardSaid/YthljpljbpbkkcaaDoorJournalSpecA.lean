/-
  Layer 3: numbers' bytes, frames.
-/
import Derived.Test.YthljpljbpbkkcaaDoorJournalPureB
import Derived.Test.YthljpljbpbkkcaaDoorPackSpecA
import Derived.Test.YthljpljbpbkkcaaDoorDiskLawA
set_option linter.unusedVariables false
set_option linter.unusedSimpArgs false
set_option maxRecDepth 4000
namespace Go.Proofs.YthljpljbpbkkcaaDoor
open Go.Sl Go.RowKit Go.Pack Go.Journal

theorem journal_low {w0 : World} {A : List HProp} {base : Option Addr} {c k n : Nat} {bs : List UInt8} (hk : k = bs.length) (hb : bs.length ≤ 1099511627776) :
    Fun Tryd.prog w0 79 [.slice base k c, .int .u32 n] (row base c 1 5 (u8s bs) :: A)
      (Ret w0 (fun i : Option Addr × Nat => k + 4 ≤ i.2) (fun i => .slice i.1 (k + 4) i.2) (fun i => row i.1 i.2 1 5 (u8s (bs ++ le4 n)) :: A)) := by
  refine Fun.enter Tryd.func79 rfl Tryd.ntmps79 rfl ?_
  exact WC.seq <| WC.region <| sv (vaS rfl) <| WL.nil <| WX.thenN <| WC.seq <| WC.region <| sv (vmS rfl) <| sv (vmI rfl) <| sv (vcv is97 Tryd.underlying5 rfl) <| sv (vmI rfl) <| sv (vshr rfl rfl (by omega)) <| sv (vcv is97 Tryd.underlying5 rfl) <| sv (vmI rfl) <| sv (vshr rfl rfl (by omega)) <| sv (vcv is97 Tryd.underlying5 rfl) <| sv (vmI rfl) <| sv (vshr rfl rfl (by omega)) <| sv (vcv is97 Tryd.underlying5 rfl) <| bsln [.int _ _, .int _ _, .int _ _, .int _ _] Tryd.underlying25 zt5 rfl rfl (by intro v hv; simp only [List.mem_cons, List.not_mem_nil, or_false] at hv; rcases hv with rfl | rfl | rfl | rfl <;> rfl) (by simp) fun b8 => pm (fun _ h => (cel_eq (low_vals n) h).pk1) <| apb Tryd.underlying25 zt5 rfl rfl hk rfl reads (by omega) fun base9 c9 hc9 =>sv (vaS rfl) <| WL.nil <| WX.thenN <| WC.ret <| WX.ret1 rfl ((base9, c9)) (hc9) rfl (fun w h => h.pk1.tail)
theorem u8s_at0 {bs : List UInt8} {i : Nat} (h : i < bs.length) : (u8s bs)[((i : Int)).toNat]? = some (.int .u8 ((bs.getD i 0).toNat : Int)) := by
  have : ((i : Int)).toNat = i := by omega
  rw [this, u8s_at h, List.getD_eq_getElem?_getD, List.getElem?_eq_getElem h]; rfl
theorem journal_number {w0 : World} {A : List HProp} {base : Option Addr} {c k : Nat} {bs : List UInt8} (hR : RdC w0 A base (u8s bs)) (hk : k = bs.length) (h4 : 4 ≤ bs.length) :
    Fun Tryd.prog w0 48 [.slice base k c] A (Ret w0 (fun _ : Unit => True) (fun _ => .int .u32 (num4 bs : Nat)) (fun _ => A)) := by
  refine Fun.enter Tryd.func48 rfl Tryd.ntmps48 rfl ?_
  exact WC.seq <| WC.region <| sv (vaI rfl) <| WL.nil <| WX.thenN <| WC.seq <| WC.draws rfl (by kernel_rfl) <| qv (vmS rfl) <| qv (vix1 Tryd.underlying25 sz5 rfl rfl (by omega) (by omega) hR (by simp; omega)) <| qv (vldo pl5 rfl hR (u8s_at0 (i := 0) (by omega))) <| qv (vcv is5 Tryd.underlying97 rfl) <| qv (vmS rfl) <| qv (vix1 Tryd.underlying25 sz5 rfl rfl (by omega) (by omega) hR (by simp; omega)) <| qv (vldo pl5 rfl hR (u8s_at0 (i := 1) (by omega))) <| qv (vcv is5 Tryd.underlying97 rfl) <| qv (vshl rfl rfl (by omega)) <| qv (vor rfl rfl) <| qv (vmS rfl) <| qv (vix1 Tryd.underlying25 sz5 rfl rfl (by omega) (by omega) hR (by simp; omega)) <| qv (vldo pl5 rfl hR (u8s_at0 (i := 2) (by omega))) <| qv (vcv is5 Tryd.underlying97 rfl) <| qv (vshl rfl rfl (by omega)) <| qv (vor rfl rfl) <| qv (vmS rfl) <| qv (vix1 Tryd.underlying25 sz5 rfl rfl (by omega) (by omega) hR (by simp; omega)) <| qv (vldo pl5 rfl hR (u8s_at0 (i := 3) (by omega))) <| qv (vcv is5 Tryd.underlying97 rfl) <| qv (vshl rfl rfl (by omega)) <| qv (vor rfl rfl) <| qv (vaI rfl) <| WQ.nil <| WX.thenN <| WC.ret <| WX.ret1 rfl (()) (trivial) (iv (number_raw bs)) (fun _ h => h)
theorem w32 {n : Nat} (h : n < 4294967296) : IntKind.u32.wrap (n : Int) = (n : Int) := by rw [IntKind.wrap_u32]; omega
theorem w64 {n : Nat} (h : n < 4294967296) : IntKind.i64.wrap (n : Int) = (n : Int) := by
  rw [IntKind.wrap_i64]; omega
theorem sum_lt (bs : List UInt8) : sum bs < 4294967296 := (~~~ (crc (BitVec.allOnes 32) bs)).isLt
theorem frameB_len (bs : List UInt8) : (frameB bs).length = bs.length + 8 := by simp [frameB, le4]
theorem pack_sum_k {w0 : World} {A : List HProp} {base : Option Addr} {c k : Nat} {bs : List UInt8} (hR : RdC w0 A base (u8s bs)) (hk : k = bs.length) (hb : bs.length ≤ 140737488355328) :
    Fun Tryd.prog w0 49 [.slice base k c] A (Ret w0 (fun _ : Unit => True) (fun _ => .int .u32 (sum bs)) (fun _ => A)) := hk ▸ pack_sum (hR := ⟨hR⟩) hb
theorem journal_frame {w0 : World} {A : List HProp} {base : Option Addr} {c k : Nat} {bs : List UInt8} (hR : RdC w0 A base (u8s bs)) (hk : k = bs.length) (hb : bs.length ≤ 1048576) :
    Fun Tryd.prog w0 56 [.slice base k c] A (Ret w0 (fun i : Option Addr × Nat => (frameB bs).length ≤ i.2) (fun i => .slice i.1 (frameB bs).length i.2) (fun i => row i.1 i.2 1 5 (u8s (frameB bs)) :: A)) := by
  refine Fun.enter Tryd.func56 rfl Tryd.ntmps56 rfl ?_
  refine WC.seq <| WC.region <| sv (vaS rfl) <| WL.nil <| WX.thenN <| WC.seq <| WC.region <| sv (vmS rfl) <| sv (vlen Tryd.underlying25 rfl) <| sv (vadd rfl rfl (by omega)) <| mk Tryd.underlying25 zt5 rfl rfl (by omega) (by omega) (by omega) (by omega) fun b2 => sv (vmS rfl) <| sv (vlen Tryd.underlying25 rfl) <| sv (vcw is3 Tryd.underlying97 rfl (w32 (by omega))) <| pm (fun _ h => made_row (by simp only [maxLen]; omega) h) <| cl (journal_low (bs := []) rfl (by simp)) ct79 rfl fun r4 hr4 => sv (vaS rfl) <| WL.nil <| WX.thenN <| WC.seq <| WC.region <| sv (vmS rfl) <| sv (vmS rfl) <| sv (vslHM Tryd.underlying25 sz5 rfl rfl rfl (by omega) (by omega) (by omega)) <| sv (vmS rfl) <| apf Tryd.underlying25 zt5 rfl rfl reads rfl hR.cons hk (by omega) fun base6 c6 X hc6 hX =>cl (pack_sum_k hX (by simp [le4, hk]; omega) (by simp [le4]; omega)) ct49 rfl fun _ _ => pm (fun _ h => h.pk1) <| cl (journal_low (bs := [] ++ le4 k) (n := sum ([] ++ le4 k ++ bs)) (by simp [le4]) (by simp [le4])) ct79 rfl fun r8 hr8 => sv (vaS rfl) <| WL.nil <| WX.thenN <| WC.seq <| WC.region <| sv (vmS rfl) <| sv (vmS rfl) <| apb Tryd.underlying25 zt5 rfl rfl (by simp [le4]) hk hR.cons.cons (by simp [le4]; omega) fun base9 c9 hc9 =>sv (vaS rfl) <| WL.nil <| WX.thenN <| WC.ret <| WX.ret1 rfl ((base9, c9)) (by rw [frameB_len]; omega) ?_ (fun w h => ?_)
  · show Value.slice _ _ _ = Value.slice _ _ _
    rw [frameB_len]
    congr 1
    rw [List.length_nil]; omega
  · have e : u8s (frameB bs) = u8s ([] ++ le4 k ++ le4 (sum ([] ++ le4 k ++ bs)) ++ bs) := by rw [hk]; rfl
    rw [e]
    exact h.pk1.tail
theorem nat8 (n : Nat) : ((8 : Int) + (n : Int)).toNat = 8 + n := by omega
theorem next_val {b1 b1' b2 b2' : Option Addr} {a1 a1' a2 a2' a3 a3' a4 a4' : Nat} (e0 : b1 = b1') (f0 : b2 = b2') (e1 : a1 = a1') (e2 : a2 = a2') (e3 : a3 = a3') (e4 : a4 = a4') : Value.tuple #[.slice b1 a1 a2, .slice b2 a3 a4, .bool true] = .tuple #[.slice b1' a1' a2', .slice b2' a3' a4', .bool true] := by rw [e0, f0, e1, e2, e3, e4]
theorem journal_next_none {w0 : World} {A : List HProp} {base : Option Addr} {c k : Nat} {bs : List UInt8} (hR : RdC w0 A base (u8s bs)) (hk : k = bs.length) (hc : bs.length ≤ c) (hb : bs.length ≤ 1099511627776) (hn : nextB bs = none) :
    Fun Tryd.prog w0 34 [.slice base k c] A (Ret w0 (fun _ : Unit => True) (fun _ => .tuple #[.slice none 0 0, .slice base k c, .bool false]) (fun _ => A)) := by
  have hlt := num4_lt bs
  have hlt2 := num4_lt (bs.drop 4)
  unfold nextB at hn
  refine Fun.enter Tryd.func34 rfl Tryd.ntmps34 rfl ?_
  refine WC.seq <| WC.region <| sv (vaS rfl) <| sv (vaS rfl) <| sv (vaB rfl) <| WL.nil <| WX.thenN <| WC.seq <| WC.seq <| WC.region <| sv (vmS rfl) <| sv (vlen Tryd.underlying25 rfl) <| sv (vlt rfl rfl) <| WL.nil <| WX.thenN <| ?_
  refine WC.ite rfl (fun h1 => ?_) (fun h1 => ?_)
  · -- then
    exact WC.seq <| WC.region <| sv (vmS rfl) <| sv (vaS rfl) <| sv (vaS rfl) <| sv (vaB rfl) <| WL.nil <| WX.thenN <| WC.ret <| WX.thenR <| WX.ret3 rfl (()) (trivial) rfl (fun _ h => h)
  · -- else
    rw [if_neg (by omega)] at hn
    refine WC.skip <| WX.thenN <| WC.seq <| WC.region <| sv (vmS rfl) <| cl (journal_number hR hk (by omega)) ct48 rfl fun _ _ => sv (vaI rfl) <| WL.nil <| WX.thenN <| WC.seq <| ?_
    refine WC.cut0 [(22, .bool (decide ((1048576 : Int) < (num4 bs : Nat) ∨ (bs.length : Int) - 8 < (num4 bs : Nat))))] [(0, .slice _ _ _), (5, .int _ _)] (A) ⟨rfl, rfl, trivial⟩ ?_ fun ρh => ?_
    · -- journal.go:39
      refine WC.region <| sv (vmI rfl) <| svs (vgt rfl rfl) (fun q1 => ?_) (fun q1 => ?_)
      ·
        exact sv (vmB rfl) <| sng rfl <| sng rfl <| sng rfl <| sng rfl <| sng rfl <| sng rfl <| sv (vpkt rfl) <| WL.nil <| WX.mid () trivial ⟨bT (by first | omega | simp_all | grind), trivial⟩ ⟨rfl, rfl, trivial⟩ (fun _ h => h)
      ·
        exact sv (vmB rfl) <| svg rfl (vmI rfl) <| svg rfl (vcw is97 Tryd.underlying3 rfl (w64 hlt)) <| svg rfl (vmS rfl) <| svg rfl (vlen Tryd.underlying25 rfl) <| svg rfl (vsub rfl rfl (by omega)) <| svg rfl (vgt rfl rfl) <| sv (vpkf rfl) <| WL.nil <| WX.mid () trivial ⟨bI (by first | omega | simp_all | grind), trivial⟩ ⟨rfl, rfl, trivial⟩ (fun _ h => h)
    refine WC.ite rfl (fun h2 => ?_) (fun h2 => ?_)
    · -- then
      exact WC.seq <| WC.region <| sv (vmS rfl) <| sv (vaS rfl) <| sv (vaS rfl) <| sv (vaB rfl) <| WL.nil <| WX.thenN <| WC.ret <| WX.thenR <| WX.ret3 rfl (()) (trivial) rfl (fun _ h => h)
    · -- else
      rw [if_neg (by omega)] at hn
      refine WC.skip <| WX.thenN <| WC.seq <| WC.region <| sv (vmI rfl) <| sv (vcw is97 Tryd.underlying3 rfl (w64 hlt)) <| sv (vadd rfl rfl (by omega)) <| sv (vaI rfl) <| WL.nil <| WX.thenN <| WC.seq <| WC.region <| sv (vmS rfl) <| sv (vmI rfl) <| sv (vmI rfl) <| sv (vslLHM Tryd.underlying25 sz5 rfl rfl rfl rfl (by omega) (by omega) (by omega) (by omega)) <| sv (vaS rfl) <| WL.nil <| WX.thenN <| WC.seq <| WC.seq <| WC.plan (.pre [0, 1, 2] (.one [5, 6] 3 (.done [4, 7, 8]))) rfl (by kernel_rfl) <| WPl.pre (trivial) <| dv (fun g => (vmS rfl)) <| dv (fun g => (vslHM Tryd.underlying25 sz5 rfl rfl rfl (by omega) (by omega) (by omega))) <| dv (fun g => (vmS rfl)) <| WD.nil <| WPl.one (fun g => g ++ A) ([]) (fun _ => trivial) (rfl) <| dv (fun g => (vmS rfl)) <| dv (fun g => (vslL Tryd.underlying25 sz5 rfl rfl (by omega) (by omega))) <| WD.eff rfl <| apf Tryd.underlying25 zt5 rfl rfl (rdbT hR 4) (by rw [List.length_take]; omega) (rdb hR 8 (8 + num4 bs) (num4 bs) (by omega)) (by rw [List.length_take, List.length_drop]; omega) (by omega) fun base8 c8 X hc8 hX =>WL.nil <| WX.br <| WPl.fin (⟨[_], rfl⟩) <| dcl (fun g => Fun.quiet (pack_sum_k hX (by rw [List.length_append, List.length_take, List.length_take, List.length_drop]; omega) (by rw [List.length_append, List.length_take, List.length_take, List.length_drop]; omega))) ct49 rfl <| dcl (fun g => Fun.quiet (journal_number (rdbL hR.cons 4 c hc) (by rw [List.length_drop]; omega) (by rw [List.length_drop]; omega))) ct48 rfl <| dv (fun g => (vne rfl rfl)) <| WD.nil <| WX.thenN <| ?_
      refine WC.ite rfl (fun h3 => ?_) (fun h3 => ?_)
      · -- then
        exact WC.seq <| WC.region <| sv (vmS rfl) <| sv (vaS rfl) <| sv (vaS rfl) <| sv (vaB rfl) <| WL.nil <| WX.thenN <| WC.ret <| WX.thenR <| WX.ret3 rfl (()) (trivial) rfl (fun w h => h.tail)
      · -- else
        exact absurd hn (by rw [if_neg (by omega)]; simp)
theorem journal_next_some {w0 : World} {A : List HProp} {base : Option Addr} {c k m : Nat} {bs : List UInt8} (hR : RdC w0 A base (u8s bs)) (hk : k = bs.length) (hc : bs.length ≤ c) (hb : bs.length ≤ 1099511627776) (hn : nextB bs = some m) :
    Fun Tryd.prog w0 34 [.slice base k c] A (Ret w0 (fun _ : Unit => True)
      (fun _ => .tuple #[.slice (slB base 8 (8 + m) 1) m m, .slice (slB base (8 + m) c 1) (bs.drop (8 + m)).length (c - (8 + m)), .bool true]) (fun _ => A)) := by
  have hlt := num4_lt bs
  have hlt2 := num4_lt (bs.drop 4)
  have hle := nextB_le hn
  unfold nextB at hn
  refine Fun.enter Tryd.func34 rfl Tryd.ntmps34 rfl ?_
  refine WC.seq <| WC.region <| sv (vaS rfl) <| sv (vaS rfl) <| sv (vaB rfl) <| WL.nil <| WX.thenN <| WC.seq <| WC.seq <| WC.region <| sv (vmS rfl) <| sv (vlen Tryd.underlying25 rfl) <| sv (vlt rfl rfl) <| WL.nil <| WX.thenN <| ?_
  refine WC.ite rfl (fun h1 => ?_) (fun h1 => ?_)
  · -- then
    exact absurd hn (by rw [if_pos (by omega)]; simp)
  · -- else
    rw [if_neg (by omega)] at hn
    refine WC.skip <| WX.thenN <| WC.seq <| WC.region <| sv (vmS rfl) <| cl (journal_number hR hk (by omega)) ct48 rfl fun _ _ => sv (vaI rfl) <| WL.nil <| WX.thenN <| WC.seq <| ?_
    refine WC.cut0 [(22, .bool (decide ((1048576 : Int) < (num4 bs : Nat) ∨ (bs.length : Int) - 8 < (num4 bs : Nat))))] [(0, .slice _ _ _), (5, .int _ _)] (A) ⟨rfl, rfl, trivial⟩ ?_ fun ρh => ?_
    · -- journal.go:39
      refine WC.region <| sv (vmI rfl) <| svs (vgt rfl rfl) (fun q1 => ?_) (fun q1 => ?_)
      ·
        exact sv (vmB rfl) <| sng rfl <| sng rfl <| sng rfl <| sng rfl <| sng rfl <| sng rfl <| sv (vpkt rfl) <| WL.nil <| WX.mid () trivial ⟨bT (by first | omega | simp_all | grind), trivial⟩ ⟨rfl, rfl, trivial⟩ (fun _ h => h)
      ·
        exact sv (vmB rfl) <| svg rfl (vmI rfl) <| svg rfl (vcw is97 Tryd.underlying3 rfl (w64 hlt)) <| svg rfl (vmS rfl) <| svg rfl (vlen Tryd.underlying25 rfl) <| svg rfl (vsub rfl rfl (by omega)) <| svg rfl (vgt rfl rfl) <| sv (vpkf rfl) <| WL.nil <| WX.mid () trivial ⟨bI (by first | omega | simp_all | grind), trivial⟩ ⟨rfl, rfl, trivial⟩ (fun _ h => h)
    refine WC.ite rfl (fun h2 => ?_) (fun h2 => ?_)
    · -- then
      exact absurd hn (by rw [if_pos (by omega)]; simp)
    · -- else
      rw [if_neg (by omega)] at hn
      have hm : m = num4 bs := by split at hn <;> simp at hn; exact hn.symm
      rw [hm] at hle ⊢
      refine WC.skip <| WX.thenN <| WC.seq <| WC.region <| sv (vmI rfl) <| sv (vcw is97 Tryd.underlying3 rfl (w64 hlt)) <| sv (vadd rfl rfl (by omega)) <| sv (vaI rfl) <| WL.nil <| WX.thenN <| WC.seq <| WC.region <| sv (vmS rfl) <| sv (vmI rfl) <| sv (vmI rfl) <| sv (vslLHM Tryd.underlying25 sz5 rfl rfl rfl rfl (by omega) (by omega) (by omega) (by omega)) <| sv (vaS rfl) <| WL.nil <| WX.thenN <| WC.seq <| WC.seq <| WC.plan (.pre [0, 1, 2] (.one [5, 6] 3 (.done [4, 7, 8]))) rfl (by kernel_rfl) <| WPl.pre (trivial) <| dv (fun g => (vmS rfl)) <| dv (fun g => (vslHM Tryd.underlying25 sz5 rfl rfl rfl (by omega) (by omega) (by omega))) <| dv (fun g => (vmS rfl)) <| WD.nil <| WPl.one (fun g => g ++ A) ([]) (fun _ => trivial) (rfl) <| dv (fun g => (vmS rfl)) <| dv (fun g => (vslL Tryd.underlying25 sz5 rfl rfl (by omega) (by omega))) <| WD.eff rfl <| apf Tryd.underlying25 zt5 rfl rfl (rdbT hR 4) (by rw [List.length_take]; omega) (rdb hR 8 (8 + num4 bs) (num4 bs) (by omega)) (by rw [List.length_take, List.length_drop]; omega) (by omega) fun base8 c8 X hc8 hX =>WL.nil <| WX.br <| WPl.fin (⟨[_], rfl⟩) <| dcl (fun g => Fun.quiet (pack_sum_k hX (by rw [List.length_append, List.length_take, List.length_take, List.length_drop]; omega) (by rw [List.length_append, List.length_take, List.length_take, List.length_drop]; omega))) ct49 rfl <| dcl (fun g => Fun.quiet (journal_number (rdbL hR.cons 4 c hc) (by rw [List.length_drop]; omega) (by rw [List.length_drop]; omega))) ct48 rfl <| dv (fun g => (vne rfl rfl)) <| WD.nil <| WX.thenN <| ?_
      refine WC.ite rfl (fun h3 => ?_) (fun h3 => ?_)
      · -- then
        exact absurd hn (by rw [if_pos (by omega)]; simp)
      · -- else
        exact WC.skip <| WX.thenN <| WC.seq <| WC.draws rfl (by kernel_rfl) <| qv (vmS rfl) <| qv (vmS rfl) <| qv (vmI rfl) <| qv (vslL Tryd.underlying25 sz5 rfl rfl (by omega) (by omega)) <| qv (vaS rfl) <| qv (vaS rfl) <| qv (vaB rfl) <| WQ.nil <| WX.thenN <| WC.ret <| WX.ret3 rfl (()) (trivial) (next_val (by rw [nat8]; rfl) (by rw [nat8]) (by rw [nat8]; show 8 + num4 bs - 8 = _; omega) (by rw [nat8]; show 8 + num4 bs - 8 = _; omega) (by rw [nat8, List.length_drop]; omega) (by rw [nat8])) (fun w h => h.tail)
end Go.Proofs.YthljpljbpbkkcaaDoor
