/-
  Layer 2: what was safe is there after any power cut.
-/
import Derived.Test.YtijbgeboaakmmaaDiskLawB
set_option linter.unusedVariables false
set_option linter.unusedSimpArgs false
set_option maxRecDepth 4000
namespace Go.Proofs.Ytijbgeboaakmmaa
open Go.Sl Go.RowKit

def nmF : ByteArray := ⟨#[102]⟩
structure SfI where
  k : Nat
  all : List UInt8
  safe : Nat
  base : Option Addr
  cap : Nat
  st : DSt
  n : Int
/-- the story so far: k pieces -/
structure SfR (m : Nat) (i : SfI) : Prop where
  k : i.k ≤ m
  len : i.all.length ≤ 256 * i.k
  safe : i.safe ≤ i.all.length
  off : i.st.off = false
  fuse : i.st.fuse = 0
  deeds : i.st.deeds = i.n
  n : 0 ≤ i.n ∧ i.n ≤ 2 * i.k
  file : (i.st.files nmF).getD ([], 0) = (i.all, i.safe)
theorem rd_take' {w0 : World} {A : List HProp} {base : Option Addr} {bs : List UInt8} (h : RdC w0 A base (u8s bs)) (m : Nat) : RdC w0 A base (u8s (bs.take m)) := by
  have := h.take m
  rwa [u8s_take] at this
theorem keptOf_le {keep : Int} {all : List UInt8} {safe : Nat} (hs : safe ≤ all.length) (hk : 0 ≤ keep) : keptOf keep (all, safe) ≤ all.length ∧ safe ≤ keptOf keep (all, safe) ∧ ((keptOf keep (all, safe) : Nat) : Int) = min (all.length : Int) (safe + keep) := by
  unfold keptOf
  dsimp only
  omega
theorem getD_lt {α : Type} {l : List α} {k : Nat} {d : α} (h : k < l.length) : l.getD k d = l[k] := by rw [List.getD_eq_getElem?_getD, List.getElem?_eq_getElem h]; rfl
theorem ysE {ys : List Bool} {k : Nat} (h : k < ys.length) : ys[k] = true ↔ (k < ys.length ∧ ys.getD k false = true) := by rw [getD_lt h]; exact ⟨fun h2 => ⟨h, h2⟩, fun h2 => h2.2⟩
theorem csE {cs : List Int} {k : Nat} (h : k < cs.length) : 0 ≤ cs[k] ↔ (k < cs.length ∧ 0 ≤ cs.getD k 0) := by rw [getD_lt h]; exact ⟨fun h2 => ⟨h, h2⟩, fun h2 => h2.2⟩
theorem vldo {P : Program} {w0 : World} {n : Nat} {ρ : Env} {A : List HProp} {dd : Option Tmp} {t T : TypeId} {x : Operand} {pos : String} {af : Array Edge} {g : Option (Nat × Bool)} {base : Option Addr} {vs : List Value} {v : Value} {j : Nat} (ht : plainT P t = true) (hx : ev n ρ x = .pointer (base.map (·.add j))) (hR : RdC w0 A base vs) (hj : vs[j]? = some v) :
    Val P w0 n ρ A ⟨dd, .load t x, T, pos, af, g⟩ v := by
  have : Reads w0 A base vs := ⟨hR⟩
  exact vldr ht hx hj
theorem walk_safe {w0 : World} {A : List HProp} {pb yb cb : Option Addr} {pc yc cc : Nat} {ps : List (Sla UInt8)} {ys : List Bool} {cs : List Int} (hp : Rd w0 pb (bss ps)) (hps : ∀ x ∈ ps, x.xs.length ≤ x.cap ∧ x.cap ≤ maxLen ∧ Rd w0 x.base (u8s x.xs)) (hy : Rd w0 yb (bls ys)) (hc : Rd w0 cb (i64s cs))
    (hcs : ∀ x ∈ cs, -9223372036854775808 ≤ x ∧ x ≤ 9223372036854775807) :
    Fun Try.prog w0 3 [.slice pb ps.length pc, .slice yb ys.length yc, .slice cb cs.length cc] A (Ret w0 (fun _ : Unit => True) (fun _ => .bool true) (fun _ => A)) := by
  have hnF : okName nmF := by decide +kernel
  have hsF : nmF.size ≤ 140737488351232 := by decide +kernel
  refine Fun.enter Try.func3 rfl Try.ntmps3 rfl ?_
  refine WC.seq <| WC.region <| sv (vaB rfl) <| WL.nil <| WX.thenN <| WC.seq <| WC.seq <| WC.region <| sv (vmS rfl) <| sv (vlen Try.underlying22 rfl) <| sv (vgt rfl rfl) <| WL.nil <| WX.thenN <| ?_
  refine WC.ite rfl (fun h1 => ?_) (fun h1 => ?_)
  · -- then
    exact WC.seq <| WC.region <| sv (vaB rfl) <| WL.nil <| WX.thenN <| WC.ret <| WX.thenR <| WX.ret1 rfl (()) (trivial) rfl (fun _ h => h)
  · -- else
    refine WC.skip <| WX.thenN <| WC.seq <| WC.region <| cl (disk_new) ct9 rfl fun d hd => sv (vaP rfl) <| WL.nil <| WX.thenN <| WC.seq <| WC.seq <| WC.region <| sv (vmP rfl) <| sv (vpeqF Try.underlying25 rfl rfl) <| WL.nil <| WX.thenN <| ?_
    refine WC.ff rfl ?_
    refine WC.skip <| WX.thenN <| WC.seq <| WC.region <| sv (vaS rfl) <| WL.nil <| WX.thenN <| WC.seq <| WC.region <| sv (vaI rfl) <| WL.nil <| WX.thenN <| WC.seq <| WC.seq <| WC.region <| sv (vaI rfl) <| WL.nil <| WX.thenN <| WC.block <| ?_
    refine WC.loop (ι := SfI) (fun i => [(8, .slice i.base i.all.length i.cap), (9, .int .i64 i.safe), (10, .int .i64 i.k)]) [(0, .slice _ _ _), (1, .slice _ _ _), (2, .slice _ _ _), (7, .pointer _)] (fun i => pdisk d i.st :: row i.base i.cap 1 5 (u8s i.all) :: A) (fun i => SfR ps.length i) (fun i => ps.length - i.k) (⟨0, [], 0, none, 0, newD, 0⟩) (⟨by simp, by simp, by simp, rfl, rfl, rfl, by simp, rfl⟩) ⟨rfl, rfl, rfl, trivial⟩ ⟨rfl, rfl, rfl, rfl, trivial⟩ (fun w h => h.intro_row_nil.pk1) ?_
    rintro ⟨k, all, safe, base, cap, st, n⟩ ⟨r1, r2, r3, r4, r5, r6, r7, r8⟩ ρh
    dsimp only at r1 r2 r3 r4 r5 r6 r7 r8 ⊢
    refine WC.seq <| WC.seq <| WC.region <| sv (vmI rfl) <| sv (vmS rfl) <| sv (vlen Try.underlying22 rfl) <| sv (vlt rfl rfl) <| WL.nil <| WX.thenN <| ?_
    refine WC.ite rfl (fun h3 => ?_) (fun h3 => ?_)
    · -- then
      have hk : k < ps.length := by omega
      obtain ⟨q, hq⟩ : ∃ q, q = ps[k] := ⟨_, rfl⟩
      obtain ⟨q1, q2, q3⟩ := hps q (by rw [hq]; exact List.getElem_mem hk)
      have hg := bss_at hk
      rw [← hq] at hg
      refine WC.skip <| WX.thenN <| ?_
      refine WC.cutv (ι := SfI) (fun i => [(8, .slice i.base i.all.length i.cap), (9, .int .i64 i.safe)]) [(0, .slice _ _ _), (1, .slice _ _ _), (2, .slice _ _ _), (7, .pointer _), (10, .int _ _)] (fun i => pdisk d i.st :: row i.base i.cap 1 5 (u8s i.all) :: A) (fun i => SfR ps.length i ∧ i.k = k + 1) ⟨rfl, rfl, rfl, rfl, rfl, trivial⟩ ?_ ?_
      · -- up to the join
        refine WC.block <| WC.seq <| WC.seq <| WC.region <| sv (vmS rfl) <| sv (vmI rfl) <| sv (vix1 Try.underlying22 sz27 rfl rfl (by omega) (by omega) (RdC.old hp) (by rw [bss_length]; omega)) <| sv (vldo pl27 rfl (RdC.old hp) hg) <| sv (vlen Try.underlying27 rfl) <| sv (vgt rfl rfl) <| WL.nil <| WX.thenN <| ?_
        refine WC.ite rfl (fun h4 => ?_) (fun h4 => ?_)
        · -- then
          exact WC.seq <| WC.region <| sv (vaB rfl) <| WL.nil <| WX.thenN <| WC.ret <| WX.thenR <| WX.blockR <| WX.thenR <| WX.thenR <| WX.blockR <| WX.thenR <| WX.ret1 rfl (()) (trivial) rfl (fun w h => h.tail.tail)
        · -- else
          obtain ⟨s1, e1, o1⟩ := One.append0 (b := q.xs) r4 r5 r6 r8 hnF (by omega)
          refine WC.skip <| WX.thenN <| WC.seq <| WC.seq <| WC.region <| sv (vmP rfl) <| sv (vmS rfl) <| sv (vmI rfl) <| sv (vix1 Try.underlying22 sz27 rfl rfl (by omega) (by omega) (RdC.old hp) (by rw [bss_length]; omega)) <| sv (vldo pl27 rfl (RdC.old hp) hg) <| cl (disk_append_at (nm := nmF) (hR := ⟨RdC.old q3⟩) hsF (by omega) (by omega) rfl e1) ct10 rfl fun _ _ => sv (vne rfl rfl) <| WL.nil <| WX.thenN <| ?_
          refine WC.ite rfl (fun h5 => ?_) (fun h5 => ?_)
          · -- then
            exact absurd rfl h5
          · -- else
            refine WC.skip <| WX.thenN <| WC.seq <| WC.region <| sv (vmS rfl) <| sv (vmS rfl) <| sv (vmI rfl) <| sv (vix1 Try.underlying22 sz27 rfl rfl (by omega) (by omega) (RdC.old hp) (by rw [bss_length]; omega)) <| sv (vldo pl27 rfl (RdC.old hp) hg) <| pm (fun _ h => h.pk1) <| apb Try.underlying27 zt5 rfl rfl rfl rfl (RdC.old q3) (by omega) fun base10 c10 hc10 =>sv (vaS rfl) <| WL.nil <| WX.thenN <| ?_
            refine WC.cutv (ι := DSt × Nat × Int) (fun i => [(9, .int .i64 i.2.1)]) [(0, .slice _ _ _), (1, .slice _ _ _), (2, .slice _ _ _), (7, .pointer _), (8, .slice _ _ _), (10, .int _ _)] (fun i => pdisk d i.1 :: row base10 c10 1 5 (u8s (all ++ q.xs)) :: A) (fun i => One i.1 nmF (all ++ q.xs) i.2.1 i.2.2 ∧ i.2.1 ≤ (all ++ q.xs).length ∧ 0 ≤ i.2.2 ∧ i.2.2 ≤ n + 2) ⟨rfl, rfl, rfl, rfl, rfl, rfl, trivial⟩ ?_ ?_
            · -- up to the join
              refine WC.cut0 [(55, .bool (decide (k < ys.length ∧ ys.getD k false = true)))] [(0, .slice _ _ _), (1, .slice _ _ _), (2, .slice _ _ _), (7, .pointer _), (8, .slice _ _ _), (9, .int _ _), (10, .int _ _)] (row base10 c10 1 5 (u8s (all ++ q.xs)) :: pdisk d s1 :: A) ⟨rfl, rfl, rfl, rfl, rfl, rfl, rfl, trivial⟩ ?_ fun ρh => ?_
              · -- law.go:144
                refine WC.region <| sv (vmI rfl) <| sv (vmS rfl) <| sv (vlen Try.underlying23 rfl) <| svs (vlt rfl rfl) (fun q1 => ?_) (fun q1 => ?_)
                ·
                  exact sv (vmB rfl) <| svg rfl (vmS rfl) <| svg rfl (vmI rfl) <| svg rfl (vix1 Try.underlying23 sz4 rfl rfl (by omega) (by omega) (RdC.old hy) (by rw [bls_length]; omega)) <| svg rfl (vldo pl4 rfl (RdC.old hy) (bls_at (by omega))) <| sv (vpkt rfl) <| WL.nil <| WX.mid () trivial ⟨bB (ysE (by omega)), trivial⟩ ⟨rfl, rfl, rfl, rfl, rfl, rfl, rfl, trivial⟩ (fun _ h => h)
                ·
                  exact sv (vmB rfl) <| sng rfl <| sng rfl <| sng rfl <| sng rfl <| sv (vpkf rfl) <| WL.nil <| WX.mid () trivial ⟨bF (fun h => q1 (by have := h.1; omega)), trivial⟩ ⟨rfl, rfl, rfl, rfl, rfl, rfl, rfl, trivial⟩ (fun _ h => h)
              refine WC.ite rfl (fun h6 => ?_) (fun h6 => ?_)
              · -- then
                obtain ⟨s2, e2, o2⟩ := o1.sync
                have d1 := o1.deeds
                rw [List.length_append] at o2
                refine WC.seq <| WC.seq <| WC.region <| sv (vmP rfl) <| pm (fun _ h => h.pk1) <| cl (disk_sync_at (nm := nmF) (by omega) e2) ct11 rfl fun _ _ => sv (vne rfl rfl) <| WL.nil <| WX.thenN <| ?_
                refine WC.ite rfl (fun h7 => ?_) (fun h7 => ?_)
                · -- then
                  exact absurd rfl h7
                · -- else
                  exact WC.skip <| WX.thenN <| WC.region <| sv (vmS rfl) <| sv (vlen Try.underlying27 rfl) <| sv (vaI rfl) <| WL.nil <| WX.mid ((s2, all.length + q.xs.length, n + 1 + 1)) (⟨o2, by rw [List.length_append]; exact Nat.le_refl _, by dsimp only; omega, by dsimp only; omega⟩) ⟨rfl, trivial⟩ ⟨rfl, rfl, rfl, rfl, rfl, rfl, trivial⟩ (fun _ h => h)
              · -- else
                exact WC.skip <| WX.mid ((s1, safe, n + 1)) (⟨o1, by rw [List.length_append]; dsimp only; omega, by dsimp only; omega, by dsimp only; omega⟩) ⟨rfl, trivial⟩ ⟨rfl, rfl, rfl, rfl, rfl, rfl, trivial⟩ (fun w h => h.pk1)
            · -- behind the join
              rintro ⟨s2, safe2, n2⟩ ⟨o2, u1, u2, u3⟩ ρh
              dsimp only at o2 u1 u2 u3 ⊢
              refine WC.cut0 [(71, .bool (decide (k < cs.length ∧ 0 ≤ cs.getD k 0)))] [(0, .slice _ _ _), (1, .slice _ _ _), (2, .slice _ _ _), (7, .pointer _), (8, .slice _ _ _), (9, .int _ _), (10, .int _ _)] (pdisk d s2 :: row base10 c10 1 5 (u8s (all ++ q.xs)) :: A) ⟨rfl, rfl, rfl, rfl, rfl, rfl, rfl, trivial⟩ ?_ fun ρh => ?_
              · -- law.go:150
                refine WC.region <| sv (vmI rfl) <| sv (vmS rfl) <| sv (vlen Try.underlying24 rfl) <| svs (vlt rfl rfl) (fun q2 => ?_) (fun q2 => ?_)
                ·
                  exact sv (vmB rfl) <| svg rfl (vmS rfl) <| svg rfl (vmI rfl) <| svg rfl (vix1 Try.underlying24 sz3 rfl rfl (by omega) (by omega) (RdC.old hc) (by rw [i64s_length]; omega)) <| svg rfl (vldo pl3 rfl (RdC.old hc) (i64s_atT (by omega))) <| svg rfl (vge rfl rfl) <| sv (vpkt rfl) <| WL.nil <| WX.mid () trivial ⟨bI (csE (by omega)), trivial⟩ ⟨rfl, rfl, rfl, rfl, rfl, rfl, rfl, trivial⟩ (fun _ h => h)
                ·
                  exact sv (vmB rfl) <| sng rfl <| sng rfl <| sng rfl <| sng rfl <| sng rfl <| sv (vpkf rfl) <| WL.nil <| WX.mid () trivial ⟨bF (fun h => q2 (by have := h.1; omega)), trivial⟩ ⟨rfl, rfl, rfl, rfl, rfl, rfl, rfl, trivial⟩ (fun _ h => h)
              refine WC.ite rfl (fun h8 => ?_) (fun h8 => ?_)
              · -- then
                have hk2 : k < cs.length := h8.1
                obtain ⟨c, hcq⟩ : ∃ c, c = cs[k] := ⟨_, rfl⟩
                have hc0 : 0 ≤ c := by rw [hcq]; exact ((csE hk2).2 h8)
                have hgc := i64s_atT hk2
                rw [← hcq] at hgc
                have hK : 0 ≤ c.tmod 300 ∧ c.tmod 300 < 300 := ⟨Int.tmod_nonneg _ hc0, Int.tmod_lt_of_pos _ (by decide)⟩
                obtain ⟨e3, o3⟩ := o2.offon (c.tmod 300)
                have e4 := o3.read
                have hkl := keptOf_le (keep := c.tmod 300) u1 hK.1
                have hL : (List.take (keptOf (c.tmod 300) (all ++ q.xs, safe2)) (all ++ q.xs)).length = keptOf (c.tmod 300) (all ++ q.xs, safe2) := by rw [List.length_take]; omega
                have hla : (all ++ q.xs).length = all.length + q.xs.length := List.length_append
                refine WC.seq <| WC.region <| sv (vmP rfl) <| sv (vmS rfl) <| sv (vmI rfl) <| sv (vix1 Try.underlying24 sz3 rfl rfl (by omega) (by omega) (RdC.old hc) (by rw [i64s_length]; omega)) <| sv (vldo pl3 rfl (RdC.old hc) hgc) <| sv (vrem rfl rfl (by decide)) <| cl (disk_off_at) ct12 rfl fun _ _ => WL.nil <| WX.thenN <| WC.seq <| WC.region <| sv (vmP rfl) <| cl (disk_read_at (nm := nmF) e3) ct13 rfl fun b20 hb20 => sv vmv <| sv (vex rfl rfl) <| sv (vex rfl rfl) <| sv (vaS rfl) <| sv (vaI rfl) <| WL.nil <| WX.thenN <| WC.seq <| WC.region <| sv (vmP rfl) <| pm (fun _ h => h.pk1) <| cl (disk_on) ct14 rfl fun _ _ => WL.nil <| WX.thenN <| WC.seq <| WC.region <| sv (vmP rfl) <| cl (disk_read_at (nm := nmF) e4) ct13 rfl fun b22 hb22 => sv vmv <| sv (vex rfl rfl) <| sv (vex rfl rfl) <| sv (vaS rfl) <| sv (vaI rfl) <| WL.nil <| WX.thenN <| WC.seq <| ?_
                refine WC.cut0 [(134, .bool false)] [(0, .slice _ _ _), (1, .slice _ _ _), (2, .slice _ _ _), (7, .pointer _), (10, .int _ _), (13, .slice _ _ _)] (row b22.1 b22.2 1 5 (u8s (List.take (keptOf (c.tmod 300) (all ++ q.xs, safe2)) (all ++ q.xs))) :: pdisk d { offS (c.tmod 300) s2 with off := false } :: row b20.1 b20.2 1 5 (u8s []) :: row base10 c10 1 5 (u8s (all ++ q.xs)) :: A) ⟨rfl, rfl, rfl, rfl, rfl, rfl, trivial⟩ ?_ fun ρh => ?_
                · -- law.go:155
                  exact WC.draws rfl (by kernel_rfl) <| qv (vmI rfl) <| qv (vF (vne rfl rfl) (by omega)) <| qv (vmB rfl) <| qvg rfl (vmI rfl) <| qvg rfl (vF (vne rfl rfl) (by omega)) <| qv (vpkf rfl) <| qv (vmB rfl) <| qvg rfl (vmS rfl) <| qvg rfl (vlen Try.underlying27 rfl) <| qvg rfl (vmI rfl) <| qvg rfl (vF (vlt rfl rfl) (by omega)) <| qv (vpkf rfl) <| qv (vmB rfl) <| qvg rfl (vmS rfl) <| qvg rfl (vlen Try.underlying27 rfl) <| qvg rfl (vmS rfl) <| qvg rfl (vlen Try.underlying27 rfl) <| qvg rfl (vF (vgt rfl rfl) (by omega)) <| qv (vpkf rfl) <| qv (vmB rfl) <| qvg rfl (vmS rfl) <| qvg rfl (vstr Try.underlying27 Try.underlying5 Try.underlying9 rfl reads (by simp)) <| qvg rfl (vmS rfl) <| qvg rfl (vmS rfl) <| qvg rfl (vlen Try.underlying27 rfl) <| qvg rfl (vslH Try.underlying27 sz5 rfl rfl (by omega) (by omega)) <| qvg rfl (vstr Try.underlying27 Try.underlying5 Try.underlying9 rfl (rd_take' reads (keptOf (c.tmod 300) (all ++ q.xs, safe2))) (by omega)) <| qvg rfl (vF (vnes rfl rfl) (fun h => h rfl)) <| qv (vpkf rfl) <| qv (vmB rfl) <| qvg rfl (vmS rfl) <| qvg rfl (vlen Try.underlying27 rfl) <| qvg rfl (vmS rfl) <| qvg rfl (vlen Try.underlying27 rfl) <| qvg rfl (vmI rfl) <| qvg rfl (vmS rfl) <| qvg rfl (vmI rfl) <| qvg rfl (vix1 Try.underlying24 sz3 rfl rfl (by omega) (by omega) (RdC.old hc) (by rw [i64s_length]; omega)) <| qvg rfl (vldo pl3 rfl (RdC.old hc) hgc) <| qvg rfl (vrem rfl rfl (by decide)) <| qvg rfl (vadd rfl rfl (by omega)) <| qvg rfl (vmin rfl rfl) <| qvg rfl (vF (vne rfl rfl) (by omega)) <| qv (vpkf rfl) <| WQ.nil <| WX.mid () trivial ⟨rfl, trivial⟩ ⟨rfl, rfl, rfl, rfl, rfl, rfl, trivial⟩ (fun _ h => h)
                refine WC.ff rfl ?_
                exact WC.skip <| WX.thenN <| WC.seq <| WC.region <| sv (vmS rfl) <| sv (vaS rfl) <| WL.nil <| WX.thenN <| WC.region <| sv (vmS rfl) <| sv (vlen Try.underlying27 rfl) <| sv (vaI rfl) <| WL.nil <| WX.blockN <| WX.mid (⟨k + 1, List.take (keptOf (c.tmod 300) (all ++ q.xs, safe2)) (all ++ q.xs), (List.take (keptOf (c.tmod 300) (all ++ q.xs, safe2)) (all ++ q.xs)).length, b22.1, b22.2, { offS (c.tmod 300) s2 with off := false }, n2⟩) (⟨⟨by dsimp only; omega, by dsimp only; omega, by dsimp only; omega, o3.off, o3.fuse, o3.deeds, by dsimp only; omega, by dsimp only; rw [hL]; exact congrArg (Option.getD · ([], 0)) o3.file⟩, rfl⟩) ⟨rfl, rfl, trivial⟩ ⟨rfl, rfl, rfl, rfl, rfl, trivial⟩ (fun w h => h.pk1.pk2.tail.pk2.tail)
              · -- else
                exact WC.skip <| WX.blockN <| WX.mid (⟨k + 1, all ++ q.xs, safe2, base10, c10, s2, n2⟩) (⟨⟨by dsimp only; omega, by dsimp only; rw [List.length_append]; omega, u1, o2.off, o2.fuse, o2.deeds, by dsimp only; omega, congrArg (Option.getD · ([], 0)) o2.file⟩, rfl⟩) ⟨by show Value.slice _ _ _ = Value.slice _ _ _; rw [List.length_append], rfl, trivial⟩ ⟨rfl, rfl, rfl, rfl, rfl, trivial⟩ (fun _ h => h)
      · -- behind the join
        rintro ⟨k2, all2, safe2, base2, cap2, st2, n2⟩ ⟨rr, hk2⟩ ρh
        dsimp only at hk2 ⊢
        subst hk2
        exact WC.region <| sv (vmI rfl) <| sv (vadd rfl rfl (by omega)) <| sv (vaI rfl) <| WL.nil <| WX.again (⟨k + 1, all2, safe2, base2, cap2, st2, n2⟩) (rr) (by dsimp only; omega) ⟨rfl, rfl, rfl, trivial⟩ ⟨rfl, rfl, rfl, rfl, trivial⟩ (fun _ h => h)
    · -- else
      exact WC.exit <| WX.thenE <| WX.thenE <| WX.blockH <| WX.thenN <| WC.seq <| WC.region <| cl (law2_awake) ct15 rfl fun _ _ => sv (vaB rfl) <| WL.nil <| WX.thenN <| WC.ret <| WX.ret1 rfl (()) (trivial) rfl (fun w h => h.tail.tail)
end Go.Proofs.Ytijbgeboaakmmaa
