/-
  Layer 3's reference: frames, a first record.
-/
import Derived.Test.YtephlppgappcnaaJournalLawB
import Derived.Test.YtephlppgappcnaaJournalRefP
import Derived.Test.YtephlppgappcnaaPackRefSum
set_option linter.unusedVariables false
set_option linter.unusedSimpArgs false
set_option maxRecDepth 4000
namespace Go.Proofs.Ytephlppgappcnaa
open Go.Sl Go.RowKit Go.Pack Go.Journal

theorem ref_four {w0 : World} {A : List HProp} {n : Nat} :
    Fun Try.prog w0 52 [.int .u32 n] A (Ret w0 (fun _ : Nat => True) (fun g => .slice (some ⟨g, 0, none⟩) 4 4) (fun g => row (some ⟨g, 0, none⟩) 4 1 5 (u8s (le4 n)) :: A)) := by
  refine Fun.enter Try.func52 rfl Try.ntmps52 rfl ?_
  exact WC.seq <| WC.region <| sv (vaS rfl) <| WL.nil <| WX.thenN <| WC.seq <| WC.region <| sv (vmI rfl) <| sv (vcv is81 Try.underlying5 rfl) <| sv (vmI rfl) <| sv (vshr rfl rfl (by omega)) <| sv (vcv is81 Try.underlying5 rfl) <| sv (vmI rfl) <| sv (vshr rfl rfl (by omega)) <| sv (vcv is81 Try.underlying5 rfl) <| sv (vmI rfl) <| sv (vshr rfl rfl (by omega)) <| sv (vcv is81 Try.underlying5 rfl) <| bsln [.int _ _, .int _ _, .int _ _, .int _ _] Try.underlying22 zt5 rfl rfl (by intro v hv; simp only [List.mem_cons, List.not_mem_nil, or_false] at hv; rcases hv with rfl | rfl | rfl | rfl <;> rfl) (by simp) fun b8 => sv (vaS rfl) <| WL.nil <| WX.thenN <| WC.ret <| WX.ret1 rfl (b8) (trivial) rfl (fun w h => (cel_eq (low_vals n) h).cel_row rfl (by simp [maxLen]))
theorem ref_sum_k {w0 : World} {A : List HProp} {base : Option Addr} {c k : Nat} {bs : List UInt8} (hR : RdC w0 A base (u8s bs)) (hk : k = bs.length) (hb : bs.length ≤ 140737488355328) :
    Fun Try.prog w0 53 [.slice base k c] A (Ret w0 (fun _ : Unit => True) (fun _ => .int .u32 (sum bs)) (fun _ => A)) := hk ▸ ref_sum (hR := ⟨hR⟩) hb
theorem ref_frame {w0 : World} {A : List HProp} {base : Option Addr} {c k : Nat} {bs : List UInt8} (hR : RdC w0 A base (u8s bs)) (hk : k = bs.length) (hb : bs.length ≤ 1048576) :
    Fun Try.prog w0 41 [.slice base k c] A (Ret w0 (fun i : Option Addr × Nat => (frameB bs).length ≤ i.2) (fun i => .slice i.1 (frameB bs).length i.2) (fun i => row i.1 i.2 1 5 (u8s (frameB bs)) :: A)) := by
  refine Fun.enter Try.func41 rfl Try.ntmps41 rfl ?_
  refine WC.seq <| WC.region <| sv (vaS rfl) <| WL.nil <| WX.thenN <| WC.seq <| WC.region <| sv (vmS rfl) <| sv (vlen Try.underlying22 rfl) <| sv (vcw is3 Try.underlying81 rfl (w32 (by omega))) <| cl (ref_four) ct52 rfl fun g2 _ => sv (vaS rfl) <| WL.nil <| WX.thenN <| WC.seq <| WC.region <| bsl0 Try.underlying22 zt5 fun b3 => sv (vaS rfl) <| WL.nil <| WX.thenN <| WC.seq <| WC.region <| sv (vmS rfl) <| sv (vmS rfl) <| apb Try.underlying22 zt5 rfl rfl (by simp) (by rw [le4_length]) reads (by omega) fun base4 c4 hc4 =>sv (vaS rfl) <| WL.nil <| WX.thenN <| WC.seq <| WC.region <| sv (vmS rfl) <| sv (vmS rfl) <| apb Try.underlying22 zt5 rfl rfl (by simp [le4]) hk hR.cons.cons (by omega) fun base5 c5 hc5 =>sv (vaS rfl) <| WL.nil <| WX.thenN <| WC.seq <| WC.region <| bsl0 Try.underlying22 zt5 fun b6 => sv (vaS rfl) <| WL.nil <| WX.thenN <| WC.seq <| WC.region <| sv (vmS rfl) <| sv (vmS rfl) <| apb Try.underlying22 zt5 rfl rfl (by simp) (by rw [le4_length]) reads (by omega) fun base7 c7 hc7 =>sv (vaS rfl) <| WL.nil <| WX.thenN <| WC.seq <| WC.region <| sv (vmS rfl) <| sv (vmS rfl) <| cl (ref_sum_k (bs := [] ++ le4 k ++ bs) reads (by simp [le4, hk]; omega) (by simp [le4]; omega)) ct53 rfl fun _ _ => cl (ref_four) ct52 rfl fun g9 _ => pm (fun _ h => h.pk1) <| apb Try.underlying22 zt5 rfl rfl (by simp [le4]) (by rw [le4_length]) reads (by omega) fun base10 c10 hc10 =>sv (vaS rfl) <| WL.nil <| WX.thenN <| WC.seq <| WC.region <| sv (vmS rfl) <| sv (vmS rfl) <| apb Try.underlying22 zt5 rfl rfl (by simp [le4]) hk hR.cons.cons.cons.cons (by omega) fun base11 c11 hc11 =>sv (vaS rfl) <| WL.nil <| WX.thenN <| WC.seq <| WC.region <| sv (vmS rfl) <| sv (vaS rfl) <| WL.nil <| WX.thenN <| WC.ret <| WX.ret1 rfl ((base11, c11)) (by rw [frameB_len]; omega) ?_ (fun w h => ?_)
  · show Value.slice _ _ _ = Value.slice _ _ _
    rw [frameB_len]
    congr 1
    omega
  · have e : u8s (frameB bs) = u8s ([] ++ le4 k ++ le4 (sum ([] ++ le4 k ++ bs)) ++ bs) := by rw [hk]; rfl
    rw [e]
    exact h.pk1.tail.pk1.tail.pk1.tail
theorem first_val {b1 b1' : Option Addr} {a1 a1' a2 a2' : Nat} (e0 : b1 = b1') (e1 : a1 = a1') (e2 : a2 = a2') : Value.tuple #[.slice b1 a1 a2, .bool true] = .tuple #[.slice b1' a1' a2', .bool true] := by rw [e0, e1, e2]
theorem byte_ne {a b : UInt8} (h : ¬ ((a.toNat : Int) ≠ (b.toNat : Int))) : a = b := UInt8.toNat_inj.1 (by omega)
theorem ref_first_none {w0 : World} {A : List HProp} {base : Option Addr} {c k : Nat} {bs : List UInt8} (hR : RdC w0 A base (u8s bs)) (hk : k = bs.length) (hc : bs.length ≤ c) (hbl : bs.length ≤ 1099511627776) (hn : nextB bs = none) :
    Fun Try.prog w0 36 [.slice base k c] A (Ret w0 (fun _ : Unit => True) (fun _ => .tuple #[.slice none 0 0, .bool false]) (fun _ => A)) := by
  have hlt := num4_lt bs
  have hb : ∀ i : Nat, (bs.getD i 0).toNat < 256 := fun i => (bs.getD i 0).toNat_lt
  have hb0 := hb 0; have hb1 := hb 1; have hb2 := hb 2; have hb3 := hb 3
  have hnum : ((bs.getD 0 0).toNat : Int) + 256 * ((bs.getD 1 0).toNat : Int) + 65536 * ((bs.getD 2 0).toNat : Int) + 16777216 * ((bs.getD 3 0).toNat : Int) = (num4 bs : Nat) := by unfold num4; omega
  unfold nextB at hn
  refine Fun.enter Try.func36 rfl Try.ntmps36 rfl ?_
  refine WC.seq <| WC.region <| sv (vaS rfl) <| sv (vaB rfl) <| WL.nil <| WX.thenN <| WC.seq <| WC.seq <| WC.region <| sv (vmS rfl) <| sv (vlen Try.underlying22 rfl) <| sv (vlt rfl rfl) <| WL.nil <| WX.thenN <| ?_
  refine WC.ite rfl (fun h1 => ?_) (fun h1 => ?_)
  · -- then
    exact WC.seq <| WC.region <| sv (vaS rfl) <| sv (vaB rfl) <| WL.nil <| WX.thenN <| WC.ret <| WX.thenR <| WX.ret2 rfl (()) (trivial) rfl (fun _ h => h)
  · -- else
    rw [if_neg (by omega)] at hn
    refine WC.skip <| WX.thenN <| WC.seq <| WC.draws rfl (by kernel_rfl) <| qv (vmS rfl) <| qv (vix1 Try.underlying22 sz5 rfl rfl (by omega) (by omega) hR (by simp; omega)) <| qv (vldo pl5 rfl hR (u8s_at0 (i := 0) (by omega))) <| qv (vcw is5 Try.underlying3 rfl (w64 (by omega))) <| qv (vmS rfl) <| qv (vix1 Try.underlying22 sz5 rfl rfl (by omega) (by omega) hR (by simp; omega)) <| qv (vldo pl5 rfl hR (u8s_at0 (i := 1) (by omega))) <| qv (vcw is5 Try.underlying3 rfl (w64 (by omega))) <| qv (vmul rfl rfl (by omega)) <| qv (vadd rfl rfl (by omega)) <| qv (vmS rfl) <| qv (vix1 Try.underlying22 sz5 rfl rfl (by omega) (by omega) hR (by simp; omega)) <| qv (vldo pl5 rfl hR (u8s_at0 (i := 2) (by omega))) <| qv (vcw is5 Try.underlying3 rfl (w64 (by omega))) <| qv (vmul rfl rfl (by omega)) <| qv (vadd rfl rfl (by omega)) <| qv (vmS rfl) <| qv (vix1 Try.underlying22 sz5 rfl rfl (by omega) (by omega) hR (by simp; omega)) <| qv (vldo pl5 rfl hR (u8s_at0 (i := 3) (by omega))) <| qv (vcw is5 Try.underlying3 rfl (w64 (by omega))) <| qv (vmul rfl rfl (by omega)) <| qv (vw (vadd rfl rfl (by omega)) (iv hnum)) <| qv (vaI rfl) <| WQ.nil <| WX.thenN <| WC.seq <| ?_
    refine WC.cut0 [(40, .bool (decide ((1048576 : Int) < (num4 bs : Nat) ∨ (bs.length : Int) - 8 < (num4 bs : Nat))))] [(0, .slice _ _ _), (4, .int _ _)] (A) ⟨rfl, rfl, trivial⟩ ?_ fun ρh => ?_
    · -- ref.go:34
      refine WC.region <| sv (vmI rfl) <| svs (vgt rfl rfl) (fun q1 => ?_) (fun q1 => ?_)
      ·
        exact sv (vmB rfl) <| sng rfl <| sng rfl <| sng rfl <| sng rfl <| sng rfl <| sv (vpkt rfl) <| WL.nil <| WX.mid () trivial ⟨bT (by first | omega | simp_all | grind), trivial⟩ ⟨rfl, rfl, trivial⟩ (fun _ h => h)
      ·
        exact sv (vmB rfl) <| svg rfl (vmI rfl) <| svg rfl (vmS rfl) <| svg rfl (vlen Try.underlying22 rfl) <| svg rfl (vsub rfl rfl (by omega)) <| svg rfl (vgt rfl rfl) <| sv (vpkf rfl) <| WL.nil <| WX.mid () trivial ⟨bI (by first | omega | simp_all | grind), trivial⟩ ⟨rfl, rfl, trivial⟩ (fun _ h => h)
    refine WC.ite rfl (fun h2 => ?_) (fun h2 => ?_)
    · -- then
      exact WC.seq <| WC.region <| sv (vaS rfl) <| sv (vaB rfl) <| WL.nil <| WX.thenN <| WC.ret <| WX.thenR <| WX.ret2 rfl (()) (trivial) rfl (fun _ h => h)
    · -- else
      rw [if_neg (by omega)] at hn
      have hiff := first_iff (b := bs) (by omega) (by omega)
      refine WC.skip <| WX.thenN <| WC.seq <| WC.region <| sv (vmS rfl) <| sv (vmI rfl) <| sv (vadd rfl rfl (by omega)) <| sv (vslLH Try.underlying22 sz5 rfl rfl rfl (by omega) (by omega) (by omega)) <| cl (ref_frame (bs := (bs.drop 8).take (num4 bs)) (rdb hR 8 c (num4 bs) (by omega)) (by rw [List.length_take, List.length_drop]; omega) (by rw [List.length_take]; omega)) ct41 rfl fun r5 hr5 => sv (vaS rfl) <| WL.nil <| WX.thenN <| WC.seq <| WC.seq <| WC.region <| sv (vaI rfl) <| WL.nil <| WX.thenN <| WC.block <| ?_
      refine WC.loop (ι := Nat) (fun i => [(6, .int .i64 i)]) [(0, .slice _ _ _), (4, .int _ _), (5, .slice _ _ _)] (fun i => row r5.1 r5.2 1 5 (u8s (frameB ((bs.drop 8).take (num4 bs)))) :: A) (fun i => i ≤ 8 ∧ ∀ k, k < i → (frameB ((bs.drop 8).take (num4 bs))).getD k 0 = bs.getD k 0) (fun i => 8 - i) (0) (⟨by omega, fun k h => by omega⟩) ⟨rfl, trivial⟩ ⟨rfl, rfl, rfl, trivial⟩ (fun _ h => h) ?_
      intro i hi ρh
      refine WC.seq <| WC.seq <| WC.region <| sv (vmI rfl) <| sv (vlt rfl rfl) <| WL.nil <| WX.thenN <| ?_
      refine WC.ite rfl (fun h3 => ?_) (fun h3 => ?_)
      · -- then
        have hfl := frameB_len ((bs.drop 8).take (num4 bs))
        refine WC.skip <| WX.thenN <| WC.seq <| WC.block <| WC.seq <| WC.draws rfl (by kernel_rfl) <| qv (vmS rfl) <| qv (vmI rfl) <| qv (vix1 Try.underlying22 sz5 rfl rfl (by omega) (by omega) reads (by simp; omega)) <| qv (vldo pl5 rfl reads (u8s_at0 (by omega))) <| qv (vmS rfl) <| qv (vmI rfl) <| qv (vix1 Try.underlying22 sz5 rfl rfl (by omega) (by omega) hR.cons (by simp; omega)) <| qv (vldo pl5 rfl hR.cons (u8s_at0 (by omega))) <| qv (vne rfl rfl) <| WQ.nil <| WX.thenN <| ?_
        refine WC.ite rfl (fun h4 => ?_) (fun h4 => ?_)
        · -- then
          exact WC.seq <| WC.region <| sv (vaS rfl) <| sv (vaB rfl) <| WL.nil <| WX.thenN <| WC.ret <| WX.blockR <| WX.thenR <| WX.thenR <| WX.blockR <| WX.thenR <| WX.ret2 rfl (()) (trivial) rfl (fun w h => h.tail)
        · -- else
          exact WC.skip <| WX.blockN <| WX.thenN <| WC.region <| sv (vmI rfl) <| sv (vadd rfl rfl (by omega)) <| sv (vaI rfl) <| WL.nil <| WX.again (i + 1) (⟨by omega, fun k hk => by rcases Nat.lt_succ_iff_lt_or_eq.1 hk with h | rfl; exact hi.2 k h; exact byte_ne h4⟩) (by omega) ⟨rfl, trivial⟩ ⟨rfl, rfl, rfl, trivial⟩ (fun _ h => h)
      · -- else
        exact absurd hn (by rw [if_neg (fun h => h (hiff.1 fun k hk => hi.2 k (by omega)))]; simp)
theorem ref_first_some {w0 : World} {A : List HProp} {base : Option Addr} {c k m : Nat} {bs : List UInt8} (hR : RdC w0 A base (u8s bs)) (hk : k = bs.length) (hc : bs.length ≤ c) (hbl : bs.length ≤ 1099511627776) (hn : nextB bs = some m) :
    Fun Try.prog w0 36 [.slice base k c] A (Ret w0 (fun _ : Unit => True) (fun _ => .tuple #[.slice (slB base 8 c 1) m (c - 8), .bool true]) (fun _ => A)) := by
  have hlt := num4_lt bs
  have hb : ∀ i : Nat, (bs.getD i 0).toNat < 256 := fun i => (bs.getD i 0).toNat_lt
  have hb0 := hb 0; have hb1 := hb 1; have hb2 := hb 2; have hb3 := hb 3
  have hnum : ((bs.getD 0 0).toNat : Int) + 256 * ((bs.getD 1 0).toNat : Int) + 65536 * ((bs.getD 2 0).toNat : Int) + 16777216 * ((bs.getD 3 0).toNat : Int) = (num4 bs : Nat) := by unfold num4; omega
  have hle := nextB_le hn
  unfold nextB at hn
  refine Fun.enter Try.func36 rfl Try.ntmps36 rfl ?_
  refine WC.seq <| WC.region <| sv (vaS rfl) <| sv (vaB rfl) <| WL.nil <| WX.thenN <| WC.seq <| WC.seq <| WC.region <| sv (vmS rfl) <| sv (vlen Try.underlying22 rfl) <| sv (vlt rfl rfl) <| WL.nil <| WX.thenN <| ?_
  refine WC.ite rfl (fun h1 => ?_) (fun h1 => ?_)
  · -- then
    exact absurd hn (by rw [if_pos (by omega)]; simp)
  · -- else
    rw [if_neg (by omega)] at hn
    refine WC.skip <| WX.thenN <| WC.seq <| WC.draws rfl (by kernel_rfl) <| qv (vmS rfl) <| qv (vix1 Try.underlying22 sz5 rfl rfl (by omega) (by omega) hR (by simp; omega)) <| qv (vldo pl5 rfl hR (u8s_at0 (i := 0) (by omega))) <| qv (vcw is5 Try.underlying3 rfl (w64 (by omega))) <| qv (vmS rfl) <| qv (vix1 Try.underlying22 sz5 rfl rfl (by omega) (by omega) hR (by simp; omega)) <| qv (vldo pl5 rfl hR (u8s_at0 (i := 1) (by omega))) <| qv (vcw is5 Try.underlying3 rfl (w64 (by omega))) <| qv (vmul rfl rfl (by omega)) <| qv (vadd rfl rfl (by omega)) <| qv (vmS rfl) <| qv (vix1 Try.underlying22 sz5 rfl rfl (by omega) (by omega) hR (by simp; omega)) <| qv (vldo pl5 rfl hR (u8s_at0 (i := 2) (by omega))) <| qv (vcw is5 Try.underlying3 rfl (w64 (by omega))) <| qv (vmul rfl rfl (by omega)) <| qv (vadd rfl rfl (by omega)) <| qv (vmS rfl) <| qv (vix1 Try.underlying22 sz5 rfl rfl (by omega) (by omega) hR (by simp; omega)) <| qv (vldo pl5 rfl hR (u8s_at0 (i := 3) (by omega))) <| qv (vcw is5 Try.underlying3 rfl (w64 (by omega))) <| qv (vmul rfl rfl (by omega)) <| qv (vw (vadd rfl rfl (by omega)) (iv hnum)) <| qv (vaI rfl) <| WQ.nil <| WX.thenN <| WC.seq <| ?_
    refine WC.cut0 [(40, .bool (decide ((1048576 : Int) < (num4 bs : Nat) ∨ (bs.length : Int) - 8 < (num4 bs : Nat))))] [(0, .slice _ _ _), (4, .int _ _)] (A) ⟨rfl, rfl, trivial⟩ ?_ fun ρh => ?_
    · -- ref.go:34
      refine WC.region <| sv (vmI rfl) <| svs (vgt rfl rfl) (fun q1 => ?_) (fun q1 => ?_)
      ·
        exact sv (vmB rfl) <| sng rfl <| sng rfl <| sng rfl <| sng rfl <| sng rfl <| sv (vpkt rfl) <| WL.nil <| WX.mid () trivial ⟨bT (by first | omega | simp_all | grind), trivial⟩ ⟨rfl, rfl, trivial⟩ (fun _ h => h)
      ·
        exact sv (vmB rfl) <| svg rfl (vmI rfl) <| svg rfl (vmS rfl) <| svg rfl (vlen Try.underlying22 rfl) <| svg rfl (vsub rfl rfl (by omega)) <| svg rfl (vgt rfl rfl) <| sv (vpkf rfl) <| WL.nil <| WX.mid () trivial ⟨bI (by first | omega | simp_all | grind), trivial⟩ ⟨rfl, rfl, trivial⟩ (fun _ h => h)
    refine WC.ite rfl (fun h2 => ?_) (fun h2 => ?_)
    · -- then
      exact absurd hn (by rw [if_pos (by omega)]; simp)
    · -- else
      rw [if_neg (by omega)] at hn
      have hm : m = num4 bs := by split at hn <;> simp at hn; exact hn.symm
      have hsum : sum (bs.take 4 ++ (bs.drop 8).take (num4 bs)) = num4 (bs.drop 4) := by split at hn; cases hn; rename_i h; simpa using h
      have hiff := (first_iff (b := bs) (by omega) (by omega)).2 hsum
      refine WC.skip <| WX.thenN <| WC.seq <| WC.region <| sv (vmS rfl) <| sv (vmI rfl) <| sv (vadd rfl rfl (by omega)) <| sv (vslLH Try.underlying22 sz5 rfl rfl rfl (by omega) (by omega) (by omega)) <| cl (ref_frame (bs := (bs.drop 8).take (num4 bs)) (rdb hR 8 c (num4 bs) (by omega)) (by rw [List.length_take, List.length_drop]; omega) (by rw [List.length_take]; omega)) ct41 rfl fun r5 hr5 => sv (vaS rfl) <| WL.nil <| WX.thenN <| WC.seq <| WC.seq <| WC.region <| sv (vaI rfl) <| WL.nil <| WX.thenN <| WC.block <| ?_
      refine WC.loop (ι := Nat) (fun i => [(6, .int .i64 i)]) [(0, .slice _ _ _), (4, .int _ _), (5, .slice _ _ _)] (fun i => row r5.1 r5.2 1 5 (u8s (frameB ((bs.drop 8).take (num4 bs)))) :: A) (fun i => i ≤ 8 ∧ ∀ k, k < i → (frameB ((bs.drop 8).take (num4 bs))).getD k 0 = bs.getD k 0) (fun i => 8 - i) (0) (⟨by omega, fun k h => by omega⟩) ⟨rfl, trivial⟩ ⟨rfl, rfl, rfl, trivial⟩ (fun _ h => h) ?_
      intro i hi ρh
      refine WC.seq <| WC.seq <| WC.region <| sv (vmI rfl) <| sv (vlt rfl rfl) <| WL.nil <| WX.thenN <| ?_
      refine WC.ite rfl (fun h3 => ?_) (fun h3 => ?_)
      · -- then
        have hfl := frameB_len ((bs.drop 8).take (num4 bs))
        refine WC.skip <| WX.thenN <| WC.seq <| WC.block <| WC.seq <| WC.draws rfl (by kernel_rfl) <| qv (vmS rfl) <| qv (vmI rfl) <| qv (vix1 Try.underlying22 sz5 rfl rfl (by omega) (by omega) reads (by simp; omega)) <| qv (vldo pl5 rfl reads (u8s_at0 (by omega))) <| qv (vmS rfl) <| qv (vmI rfl) <| qv (vix1 Try.underlying22 sz5 rfl rfl (by omega) (by omega) hR.cons (by simp; omega)) <| qv (vldo pl5 rfl hR.cons (u8s_at0 (by omega))) <| qv (vne rfl rfl) <| WQ.nil <| WX.thenN <| ?_
        refine WC.ite rfl (fun h4 => ?_) (fun h4 => ?_)
        · -- then
          exact absurd (congrArg (fun x : UInt8 => (x.toNat : Int)) (hiff i (by omega))) h4
        · -- else
          exact WC.skip <| WX.blockN <| WX.thenN <| WC.region <| sv (vmI rfl) <| sv (vadd rfl rfl (by omega)) <| sv (vaI rfl) <| WL.nil <| WX.again (i + 1) (⟨by omega, fun k hk => by rcases Nat.lt_succ_iff_lt_or_eq.1 hk with h | rfl; exact hi.2 k h; exact byte_ne h4⟩) (by omega) ⟨rfl, trivial⟩ ⟨rfl, rfl, rfl, trivial⟩ (fun _ h => h)
      · -- else
        exact WC.exit <| WX.thenE <| WX.thenE <| WX.blockH <| WX.thenN <| WC.seq <| WC.region <| sv (vmS rfl) <| sv (vmI rfl) <| sv (vadd rfl rfl (by omega)) <| sv (vslLH Try.underlying22 sz5 rfl rfl rfl (by omega) (by omega) (by omega)) <| sv (vaS rfl) <| sv (vaB rfl) <| WL.nil <| WX.thenN <| WC.ret <| WX.ret2 rfl (()) (trivial) (first_val rfl (by rw [nat8, hm]; show 8 + num4 bs - 8 = _; omega) rfl) (fun w h => h.tail)
end Go.Proofs.Ytephlppgappcnaa
