/-
  Layer 2: the power fails in just that deed.
-/
import Derived.Test.YtijbgeboaakmmaaDiskLawB
import Derived.Test.YtijbgeboaakmmaaDiskNamesB
import Derived.Test.YtijbgeboaakmmaaDiskCut
import Derived.Test.YtijbgeboaakmmaaSlEq
import Derived.Test.YtijbgeboaakmmaaSlAgg
set_option linter.unusedVariables false
set_option linter.unusedSimpArgs false
set_option maxRecDepth 4000
namespace Go.Proofs.Ytijbgeboaakmmaa
open Go.Sl Go.RowKit

abbrev nmS : ByteArray := ⟨#[102]⟩
/-- a disk that is on and fails in its n-th deed, behind k deeds -/
structure Ar (n k : Int) (L : Nat) (st : DSt) : Prop where
  off : st.off = false
  fuse : st.fuse = n - k
  deeds : st.deeds = k
  file : ∀ v, st.files nmS = some v → v.1.length ≤ L ∧ v.2 ≤ v.1.length
theorem Ar.more {n k : Int} {L M : Nat} {st : DSt} (h : Ar n k L st) (hM : L ≤ M) : Ar n k M st := ⟨h.off, h.fuse, h.deeds, fun v hv => ⟨by have := (h.file v hv).1; omega, (h.file v hv).2⟩⟩
/-- a disk whose power has failed in its n-th deed -/
structure Fa (n : Int) (L : Nat) (st : DSt) : Prop where
  off : st.off = true
  fuse : st.fuse = 0
  deeds : st.deeds = n
  file : ∀ v, st.files nmS = some v → v.1.length ≤ L ∧ v.2 ≤ v.1.length
theorem kept_le {keep : Int} {v : List UInt8 × Nat} (h : v.2 ≤ v.1.length) : (offV keep v).1.length ≤ v.1.length ∧ (offV keep v).2 ≤ (offV keep v).1.length := by
  unfold offV
  dsimp only
  rw [List.length_take]
  have : keptOf keep v ≤ v.1.length := by unfold keptOf; omega
  omega
theorem Fa.mk' {n : Int} {L : Nat} {keep : Int} {st : DSt} (ho : st.off = false) (hf : st.fuse = 0) (hd : st.deeds = n) (hv : ∀ v, st.files nmS = some v → v.1.length ≤ L ∧ v.2 ≤ v.1.length) : Fa n L (offS keep st) := by
  unfold offS
  rw [if_neg (by rw [ho]; decide)]
  refine ⟨rfl, hf, hd, fun v h => ?_⟩
  dsimp only at h
  obtain ⟨u, hu, rfl⟩ := Option.map_eq_some_iff.1 h
  have h1 := hv u hu
  have h2 := kept_le (keep := keep) h1.2
  exact ⟨by omega, h2.2⟩
theorem Ar.appendV {n k : Int} {L : Nat} {st : DSt} {b : List UInt8} (h : Ar n k L st) : (appendV nmS b st.files).1.length ≤ L + b.length ∧ (appendV nmS b st.files).2 ≤ (appendV nmS b st.files).1.length := by
  unfold Go.Proofs.Ytijbgeboaakmmaa.appendV
  cases hf : st.files nmS with
  | none => simp
  | some v =>
    have := h.file v hf
    simp only [Option.getD_some, List.length_append]
    omega
theorem Ar.fail {n k : Int} {L : Nat} {st : DSt} {b : List UInt8} (h : Ar n k L st) (hn : k + 1 = n) (hL : L + b.length ≤ 16777216) : ∃ st', appendS nmS b st = (st', 20) ∧ Fa n (L + b.length) st' := by
  have hV := h.appendV (b := b)
  have hk := appendS_eq (b := b) h.off (by decide +kernel : okName nmS) (V := Go.Proofs.Ytijbgeboaakmmaa.appendV nmS b st.files) rfl rfl
  rw [if_pos (by omega), if_pos (by rw [h.fuse]; omega)] at hk
  refine ⟨_, hk, Fa.mk' h.off rfl (by dsimp only; rw [h.deeds]; exact hn) fun v hv => ?_⟩
  dsimp only at hv
  unfold putV at hv
  rw [if_pos rfl] at hv
  cases hv
  exact hV
theorem Ar.append {n k : Int} {L : Nat} {st : DSt} {b : List UInt8} (h : Ar n k L st) (hn : k + 1 < n) (hL : L + b.length ≤ 16777216) : ∃ st', appendS nmS b st = (st', 0) ∧ Ar n (k + 1) (L + b.length) st' ∧ (st'.files nmS).isSome = true := by
  have hV := h.appendV (b := b)
  have hk := appendS_eq (b := b) h.off (by decide +kernel : okName nmS) (V := Go.Proofs.Ytijbgeboaakmmaa.appendV nmS b st.files) rfl rfl
  rw [if_pos (by omega), if_neg (by rw [h.fuse]; omega)] at hk
  refine ⟨_, hk, ⟨h.off, by dsimp only; rw [h.fuse]; omega, by dsimp only; rw [h.deeds], fun v hv => ?_⟩, ?_⟩
  · dsimp only at hv
    unfold putV at hv
    rw [if_pos rfl] at hv
    cases hv
    exact hV
  · dsimp only
    unfold putV
    rw [if_pos rfl]; rfl
theorem Ar.syncFail {n k : Int} {L : Nat} {st : DSt} (h : Ar n k L st) (hs : (st.files nmS).isSome = true) (hn : k + 1 = n) : ∃ st', syncS nmS st = (st', 20) ∧ Fa n L st' := by
  obtain ⟨v, hv⟩ := Option.isSome_iff_exists.1 hs
  have hk : syncS nmS st = deedS (putV nmS (v.1, v.1.length)) id st := by unfold syncS; rw [if_neg (by rw [h.off]; decide), hv]
  unfold deedS at hk
  rw [if_pos (by rw [h.fuse]; omega)] at hk
  exact ⟨_, hk, Fa.mk' h.off rfl (by dsimp only; rw [h.deeds]; exact hn) h.file⟩
theorem Ar.sync {n k : Int} {L : Nat} {st : DSt} (h : Ar n k L st) (hs : (st.files nmS).isSome = true) (hn : k + 1 < n) : ∃ st', syncS nmS st = (st', 0) ∧ Ar n (k + 1) L st' := by
  obtain ⟨v, hv⟩ := Option.isSome_iff_exists.1 hs
  have hk : syncS nmS st = deedS (putV nmS (v.1, v.1.length)) id st := by unfold syncS; rw [if_neg (by rw [h.off]; decide), hv]
  unfold deedS at hk
  rw [if_neg (by rw [h.fuse]; omega)] at hk
  refine ⟨_, hk, h.off, by dsimp only; rw [h.fuse]; omega, by dsimp only; rw [h.deeds], fun u hu => ?_⟩
  dsimp only at hu
  unfold putV at hu
  rw [if_pos rfl] at hu
  cases hu
  exact ⟨(h.file v hv).1, Nat.le_refl _⟩
theorem Fa.sync {n : Int} {L : Nat} {st : DSt} (h : Fa n L st) : syncS nmS st = (st, 20) := by unfold syncS; rw [if_pos h.off]
theorem Fa.append {n : Int} {L : Nat} {st : DSt} {b : List UInt8} (h : Fa n L st) : appendS nmS b st = (st, 20) := by unfold appendS; rw [if_pos h.off]
theorem Fa.cut {n m : Int} {L : Nat} {st : DSt} (h : Fa n L st) : cutS nmS m st = (st, 20) := by unfold cutS; rw [if_pos h.off]
theorem Fa.on {n : Int} {L : Nat} {st : DSt} {b : List UInt8} (h : Fa n L st) (hL : L + b.length ≤ 16777216) : ∃ s1 s2, appendS nmS b { st with off := false } = (s1, 0) ∧ s1.deeds = n + 1 ∧ syncS nmS s1 = (s2, 0) ∧ s2.deeds = n + 2 := by
  obtain ⟨all, safe, hV, hl⟩ : ∃ all safe, ((st.files nmS).getD ([], 0)) = (all, safe) ∧ all.length ≤ L := by
    cases hf : st.files nmS with
    | none => exact ⟨[], 0, rfl, Nat.zero_le _⟩
    | some v => exact ⟨v.1, v.2, rfl, (h.file v hf).1⟩
  obtain ⟨s1, e1, o1⟩ := One.append0 (st := { st with off := false }) (nm := nmS) (b := b) rfl h.fuse h.deeds hV (by decide +kernel) (by omega)
  obtain ⟨s2, e2, o2⟩ := o1.sync
  exact ⟨s1, s2, e1, o1.deeds, e2, by rw [o2.deeds]; omega⟩
theorem walk_stops {w0 : World} {A : List HProp} {pb : Option Addr} {pc : Nat} {ps : List (Sla UInt8)} {n keep : Int} (hp : Rd w0 pb (bss ps)) (hps : ∀ x ∈ ps, x.xs.length ≤ x.cap ∧ x.cap ≤ maxLen ∧ Rd w0 x.base (u8s x.xs)) (hnb : n ≤ 9223372036854775807) :
    Fun Try.prog w0 6 [.slice pb ps.length pc, .int .i64 n, .int .i64 keep] A (Ret w0 (fun _ : Unit => True) (fun _ => .bool true) (fun _ => A)) := by
  have hsF : nmS.size ≤ 140737488351232 := by decide +kernel
  refine Fun.enter Try.func6 rfl Try.ntmps6 rfl ?_
  refine WC.seq <| WC.region <| sv (vaB rfl) <| WL.nil <| WX.thenN <| WC.seq <| ?_
  refine WC.cutS [(20, .bool (decide ((100 : Int) < ps.length ∨ n < 1)))] [(0, .slice _ _ _), (1, .int _ _), (2, .int _ _)] ⟨rfl, rfl, rfl, trivial⟩ ?_ fun ρh => ?_
  · -- law.go:167
    refine WC.region <| sv (vmS rfl) <| sv (vlen Try.underlying22 rfl) <| svs (vgt rfl rfl) (fun q1 => ?_) (fun q1 => ?_)
    ·
      exact sv (vmB rfl) <| sng rfl <| sng rfl <| sv (vpkt rfl) <| WL.nil <| WX.mid () trivial ⟨bT (by first | omega | simp_all | grind), trivial⟩ ⟨rfl, rfl, rfl, trivial⟩ (fun _ h => Sb.own (by repeat' (first | with_reducible exact Sb.all | exact Sb.nil | (apply Sb.cons; focus (first | ((repeat (first | with_reducible exact Tk.here | with_reducible apply Tk.there)); done) | ((repeat (first | exact Tk.here | apply Tk.there)); done))) | apply Sb.drop)) h)
    ·
      exact sv (vmB rfl) <| svg rfl (vmI rfl) <| svg rfl (vlt rfl rfl) <| sv (vpkf rfl) <| WL.nil <| WX.mid () trivial ⟨bI (by first | omega | simp_all | grind), trivial⟩ ⟨rfl, rfl, rfl, trivial⟩ (fun _ h => Sb.own (by repeat' (first | with_reducible exact Sb.all | exact Sb.nil | (apply Sb.cons; focus (first | ((repeat (first | with_reducible exact Tk.here | with_reducible apply Tk.there)); done) | ((repeat (first | exact Tk.here | apply Tk.there)); done))) | apply Sb.drop)) h)
  refine WC.ite rfl (fun h1 => ?_) (fun h1 => ?_)
  · -- then
    exact WC.seq <| WC.region <| sv (vaB rfl) <| WL.nil <| WX.thenN <| WC.ret <| WX.thenR <| WX.ret1 rfl (()) (trivial) rfl (fun _ h => Sb.own (by repeat' (first | with_reducible exact Sb.all | exact Sb.nil | (apply Sb.cons; focus (first | ((repeat (first | with_reducible exact Tk.here | with_reducible apply Tk.there)); done) | ((repeat (first | exact Tk.here | apply Tk.there)); done))) | apply Sb.drop)) h)
  · -- else
    refine WC.skip <| WX.thenN <| WC.seq <| WC.region <| clx (by repeat' (first | with_reducible exact Sb.all | exact Sb.nil | (apply Sb.cons; focus (first | ((repeat (first | with_reducible exact Tk.here | with_reducible apply Tk.there)); done) | ((repeat (first | exact Tk.here | apply Tk.there)); done))) | apply Sb.drop)) (disk_new) ct9 rfl fun r1 hr1 => ?_
    refine sv (vaP rfl) <| WL.nil <| WX.thenN <| WC.seq <| WC.seq <| WC.region <| sv (vmP rfl) <| sv (vpeqF Try.underlying25 rfl rfl) <| WL.nil <| WX.thenN <| ?_
    refine WC.ff rfl ?_
    refine WC.skip <| WX.thenN <| WC.seq <| WC.region <| sv (vmP rfl) <| sv (vmI rfl) <| sv (vmI rfl) <| clx (by repeat' (first | with_reducible exact Sb.all | exact Sb.nil | (apply Sb.cons; focus (first | ((repeat (first | with_reducible exact Tk.here | with_reducible apply Tk.there)); done) | ((repeat (first | exact Tk.here | apply Tk.there)); done))) | apply Sb.drop)) (disk_arm hnb) ct22 rfl fun r3 hr3 => ?_
    refine WL.nil <| WX.thenN <| WC.seq <| WC.region <| sv (vaI rfl) <| WL.nil <| WX.thenN <| WC.seq <| WC.seq <| WC.region <| sv (vaI rfl) <| WL.nil <| WX.thenN <| WC.block <| ?_
    refine WC.loop (ι := Nat × DSt) (fun i => [(8, .int .i64 (2 * (i.1 : Int))), (9, .int .i64 i.1)]) [(0, .slice _ _ _), (1, .int _ _), (7, .pointer _)] (fun i => pdisk r1 i.2 :: A) (fun i => i.1 ≤ ps.length ∧ Ar n (2 * i.1) (256 * i.1) i.2 ∧ 2 * (i.1 : Int) < n) (fun i => ps.length - i.1) ((0, { newD with fuse := max n 0, keep := keep })) (⟨Nat.zero_le _, ⟨rfl, by show max n 0 = n - 2 * ((0 : Nat) : Int); omega, rfl, fun v h => (by cases h)⟩, by show 2 * ((0 : Nat) : Int) < n; omega⟩) ⟨rfl, rfl, trivial⟩ ⟨rfl, rfl, rfl, trivial⟩ (fun _ h => Sb.own (by repeat' (first | with_reducible exact Sb.all | exact Sb.nil | (apply Sb.cons; focus (first | ((repeat (first | with_reducible exact Tk.here | with_reducible apply Tk.there)); done) | ((repeat (first | exact Tk.here | apply Tk.there)); done))) | apply Sb.drop)) h) ?_
    rintro ⟨i, st⟩ ⟨hi, har, hin⟩ ρh
    dsimp only at hi har hin ⊢
    refine WC.seq <| WC.seq <| WC.region <| sv (vmI rfl) <| sv (vmS rfl) <| sv (vlen Try.underlying22 rfl) <| sv (vlt rfl rfl) <| WL.nil <| WX.thenN <| ?_
    refine WC.ite rfl (fun h3 => ?_) (fun h3 => ?_)
    · -- then
      have hk : i < ps.length := by omega
      obtain ⟨q, hq⟩ : ∃ q, q = ps[i] := ⟨_, rfl⟩
      obtain ⟨q1, q2, q3⟩ := hps q (by rw [hq]; exact List.getElem_mem hk)
      have hg := bss_at hk
      rw [← hq] at hg
      have hdd := har.deeds
      refine WC.skip <| WX.thenN <| WC.seq <| WC.block <| WC.seq <| WC.seq <| WC.region <| sv (vmS rfl) <| sv (vmI rfl) <| sv (vix1 Try.underlying22 sz27 rfl rfl (by omega) (by omega) (RdC.old hp) (by rw [bss_length]; omega)) <| sv (vldo pl27 rfl (RdC.old hp) hg) <| sv (vlen Try.underlying27 rfl) <| sv (vgt rfl rfl) <| WL.nil <| WX.thenN <| ?_
      refine WC.ite rfl (fun h4 => ?_) (fun h4 => ?_)
      · -- then
        exact WC.seq <| WC.region <| sv (vaB rfl) <| WL.nil <| WX.thenN <| WC.ret <| WX.thenR <| WX.blockR <| WX.thenR <| WX.thenR <| WX.blockR <| WX.thenR <| WX.ret1 rfl (()) (trivial) rfl (fun _ h => Sb.own (by repeat' (first | with_reducible exact Sb.all | exact Sb.nil | (apply Sb.cons; focus (first | ((repeat (first | with_reducible exact Tk.here | with_reducible apply Tk.there)); done) | ((repeat (first | exact Tk.here | apply Tk.there)); done))) | apply Sb.drop)) h)
      · -- else
        have hRi : Reads w0 A q.base (u8s q.xs) := ⟨RdC.old q3⟩
        rcases (show 2 * (i : Int) + 1 = n ∨ 2 * (i : Int) + 1 + 1 = n ∨ 2 * (i : Int) + 1 + 1 < n by omega) with hfa | hfs | hlt2
        · -- fa
          obtain ⟨sf, hap, hf⟩ := har.fail (b := q.xs) hfa (by omega)
          refine WC.skip <| WX.thenN <| WC.seq <| WC.region <| sv (vmP rfl) <| sv (vmS rfl) <| sv (vmI rfl) <| sv (vix1 Try.underlying22 sz27 rfl rfl (by omega) (by omega) (RdC.old hp) (by rw [bss_length]; omega)) <| sv (vldo pl27 rfl (RdC.old hp) hg) <| clx (by repeat' (first | with_reducible exact Sb.all | exact Sb.nil | (apply Sb.cons; focus (first | ((repeat (first | with_reducible exact Tk.here | with_reducible apply Tk.there)); done) | ((repeat (first | exact Tk.here | apply Tk.there)); done))) | apply Sb.drop)) (disk_append_at (nm := nmS) (b := q.xs) hsF (by omega) (by omega) rfl hap) ct10 rfl fun r8 hr8 => ?_
          refine sv (vaI rfl) <| WL.nil <| WX.thenN <| WC.seq <| WC.seq <| WC.region <| sv (vmI rfl) <| sv (veq rfl rfl) <| WL.nil <| WX.thenN <| ?_
          refine WC.ff rfl ?_
          refine WC.skip <| WX.thenN <| WC.seq <| WC.region <| sv (vmI rfl) <| sv (vne rfl rfl) <| WL.nil <| WX.thenN <| ?_
          refine WC.tt rfl ?_
          refine WC.seq <| WC.region <| sv (vmP rfl) <| clx (by repeat' (first | with_reducible exact Sb.all | exact Sb.nil | (apply Sb.cons; focus (first | ((repeat (first | with_reducible exact Tk.here | with_reducible apply Tk.there)); done) | ((repeat (first | exact Tk.here | apply Tk.there)); done))) | apply Sb.drop)) (disk_sync_at (nm := nmS) (by have := hf.deeds; omega) hf.sync) ct11 rfl fun r12 hr12 => ?_
          refine sv (vaI rfl) <| WL.nil <| WX.thenN <| WC.seq <| WC.region <| sv (vmP rfl) <| sv (vmS rfl) <| sv (vmI rfl) <| sv (vix1 Try.underlying22 sz27 rfl rfl (by omega) (by omega) (RdC.old hp) (by rw [bss_length]; omega)) <| sv (vldo pl27 rfl (RdC.old hp) hg) <| clx (by repeat' (first | with_reducible exact Sb.all | exact Sb.nil | (apply Sb.cons; focus (first | ((repeat (first | with_reducible exact Tk.here | with_reducible apply Tk.there)); done) | ((repeat (first | exact Tk.here | apply Tk.there)); done))) | apply Sb.drop)) (disk_append_at (nm := nmS) (b := q.xs) hsF (by have := hf.deeds; omega) (by omega) rfl hf.append) ct10 rfl fun r15 hr15 => ?_
          refine sv (vaI rfl) <| WL.nil <| WX.thenN <| WC.seq <| WC.region <| sv (vmP rfl) <| clx (by repeat' (first | with_reducible exact Sb.all | exact Sb.nil | (apply Sb.cons; focus (first | ((repeat (first | with_reducible exact Tk.here | with_reducible apply Tk.there)); done) | ((repeat (first | exact Tk.here | apply Tk.there)); done))) | apply Sb.drop)) (disk_cut_at (nm := nmS) (by have := hf.deeds; omega) hf.cut) ct23 rfl fun r16 hr16 => ?_
          refine sv (vaI rfl) <| WL.nil <| WX.thenN <| WC.seq <| ?_
          refine WC.cutS [(106, .bool false)] [(0, .slice _ _ _), (1, .int _ _), (7, .pointer _), (9, .int _ _)] ⟨rfl, rfl, rfl, rfl, trivial⟩ ?_ fun ρh => ?_
          · -- law.go:192
            refine WC.region <| sv (vmI rfl) <| sv (vF (vne rfl rfl) (by omega)) <| sv (vmB rfl) <| svg rfl (vmI rfl) <| svg rfl (vmI rfl) <| svg rfl (vF (vne rfl rfl) (by omega)) <| sv (vpkf rfl) <| sv (vmB rfl) <| svg rfl (vmI rfl) <| svg rfl (vmI rfl) <| svg rfl (vF (vne rfl rfl) (by omega)) <| sv (vpkf rfl) <| sv (vmB rfl) <| svg rfl (vmI rfl) <| svg rfl (vmI rfl) <| svg rfl (vF (vne rfl rfl) (by omega)) <| sv (vpkf rfl) <| sv (vmB rfl) <| svg rfl (vmP rfl) <| gy rfl <| clx (by repeat' (first | with_reducible exact Sb.all | exact Sb.nil | (apply Sb.cons; focus (first | ((repeat (first | with_reducible exact Tk.here | with_reducible apply Tk.there)); done) | ((repeat (first | exact Tk.here | apply Tk.there)); done))) | apply Sb.drop)) (disk_up_at hf.off) ct20 rfl fun r17 hr17 => ?_
            refine sv (vpkf rfl) <| sv (vmB rfl) <| svg rfl (vmI rfl) <| svg rfl (vmI rfl) <| svg rfl (vsub rfl rfl (by omega)) <| svg rfl (vF (vne rfl rfl) (by omega)) <| sv (vpkf rfl) <| sv (vmB rfl) <| svg rfl (vmP rfl) <| gy rfl <| clx (by repeat' (first | with_reducible exact Sb.all | exact Sb.nil | (apply Sb.cons; focus (first | ((repeat (first | with_reducible exact Tk.here | with_reducible apply Tk.there)); done) | ((repeat (first | exact Tk.here | apply Tk.there)); done))) | apply Sb.drop)) (disk_deeds_at hf.deeds) ct21 rfl fun r19 hr19 => ?_
            refine svg rfl (vmI rfl) <| svg rfl (vF (vne rfl rfl) (by omega)) <| sv (vpkf rfl) <| sv (vmB rfl) <| svg rfl (vmP rfl) <| gy rfl <| clx (by repeat' (first | with_reducible exact Sb.all | exact Sb.nil | (apply Sb.cons; focus (first | ((repeat (first | with_reducible exact Tk.here | with_reducible apply Tk.there)); done) | ((repeat (first | exact Tk.here | apply Tk.there)); done))) | apply Sb.drop)) (disk_names_off hf.off) ct17 rfl fun r20 hr20 => ?_
            exact svg rfl (vlen Try.underlying36 rfl) <| svg rfl (vF (vne rfl rfl) (by omega)) <| sv (vpkf rfl) <| WL.nil <| WX.mid () trivial ⟨rfl, trivial⟩ ⟨rfl, rfl, rfl, rfl, trivial⟩ (fun _ h => Sb.own (by repeat' (first | with_reducible exact Sb.all | exact Sb.nil | (apply Sb.cons; focus (first | ((repeat (first | with_reducible exact Tk.here | with_reducible apply Tk.there)); done) | ((repeat (first | exact Tk.here | apply Tk.there)); done))) | apply Sb.drop)) h)
          refine WC.ff rfl ?_
          obtain ⟨s3, s4, ho1, hdo1, ho2, hdo2⟩ := hf.on (b := q.xs) (by omega)
          have hfd := hf.deeds
          refine WC.skip <| WX.thenN <| WC.seq <| WC.region <| sv (vmP rfl) <| clx (by repeat' (first | with_reducible exact Sb.all | exact Sb.nil | (apply Sb.cons; focus (first | ((repeat (first | with_reducible exact Tk.here | with_reducible apply Tk.there)); done) | ((repeat (first | exact Tk.here | apply Tk.there)); done))) | apply Sb.drop)) (disk_on) ct14 rfl fun r21 hr21 => ?_
          refine WL.nil <| WX.thenN <| ?_
          refine WC.cut0 [(6, .bool true)] [] (A) trivial ?_ fun ρh => ?_
          · -- law.go:196
            refine WC.region <| clx (by repeat' (first | with_reducible exact Sb.all | exact Sb.nil | (apply Sb.cons; focus (first | ((repeat (first | with_reducible exact Tk.here | with_reducible apply Tk.there)); done) | ((repeat (first | exact Tk.here | apply Tk.there)); done))) | apply Sb.drop)) (law2_awake) ct15 rfl fun r22 hr22 => ?_
            refine sv (vmB rfl) <| svg rfl (vmP rfl) <| svg rfl (vmS rfl) <| svg rfl (vmI rfl) <| svg rfl (vix1 Try.underlying22 sz27 rfl rfl (by omega) (by omega) (RdC.old hp) (by rw [bss_length]; omega)) <| svg rfl (vldo pl27 rfl (RdC.old hp) hg) <| gy rfl <| clx (by repeat' (first | with_reducible exact Sb.all | exact Sb.nil | (apply Sb.cons; focus (first | ((repeat (first | with_reducible exact Tk.here | with_reducible apply Tk.there)); done) | ((repeat (first | exact Tk.here | apply Tk.there)); done))) | apply Sb.drop)) (disk_append_at (nm := nmS) (b := q.xs) hsF (by dsimp only; omega) (by omega) rfl ho1) ct10 rfl fun r25 hr25 => ?_
            refine svg rfl (vT (veq rfl rfl) (by omega)) <| sv (vpkt rfl) <| sv (vmB rfl) <| svg rfl (vmP rfl) <| gy rfl <| clx (by repeat' (first | with_reducible exact Sb.all | exact Sb.nil | (apply Sb.cons; focus (first | ((repeat (first | with_reducible exact Tk.here | with_reducible apply Tk.there)); done) | ((repeat (first | exact Tk.here | apply Tk.there)); done))) | apply Sb.drop)) (disk_sync_at (nm := nmS) (by omega) ho2) ct11 rfl fun r26 hr26 => ?_
            refine svg rfl (vT (veq rfl rfl) (by omega)) <| sv (vpkt rfl) <| sv (vmB rfl) <| svg rfl (vmP rfl) <| gy rfl <| clx (by repeat' (first | with_reducible exact Sb.all | exact Sb.nil | (apply Sb.cons; focus (first | ((repeat (first | with_reducible exact Tk.here | with_reducible apply Tk.there)); done) | ((repeat (first | exact Tk.here | apply Tk.there)); done))) | apply Sb.drop)) (disk_deeds_at hdo2) ct21 rfl fun r27 hr27 => ?_
            exact svg rfl (vmI rfl) <| svg rfl (vadd rfl rfl (by omega)) <| svg rfl (vT (veq rfl rfl) (by omega)) <| sv (vpkt rfl) <| sv (vaB rfl) <| WL.nil <| WX.mid () trivial ⟨rfl, trivial⟩ trivial (fun _ h => Sb.own (by repeat' (first | with_reducible exact Sb.all | exact Sb.nil | (apply Sb.cons; focus (first | ((repeat (first | with_reducible exact Tk.here | with_reducible apply Tk.there)); done) | ((repeat (first | exact Tk.here | apply Tk.there)); done))) | apply Sb.drop)) h)
          exact WC.ret <| WX.blockR <| WX.thenR <| WX.thenR <| WX.blockR <| WX.thenR <| WX.ret1 rfl (()) (trivial) rfl (fun _ h => Sb.own (by repeat' (first | with_reducible exact Sb.all | exact Sb.nil | (apply Sb.cons; focus (first | ((repeat (first | with_reducible exact Tk.here | with_reducible apply Tk.there)); done) | ((repeat (first | exact Tk.here | apply Tk.there)); done))) | apply Sb.drop)) h)
        · -- fs
          obtain ⟨s1, hap, har1, hsm⟩ := har.append (b := q.xs) (by omega) (by omega)
          have hd1 := har1.deeds
          obtain ⟨sf, hsy, hf⟩ := har1.syncFail hsm hfs
          refine WC.skip <| WX.thenN <| WC.seq <| WC.region <| sv (vmP rfl) <| sv (vmS rfl) <| sv (vmI rfl) <| sv (vix1 Try.underlying22 sz27 rfl rfl (by omega) (by omega) (RdC.old hp) (by rw [bss_length]; omega)) <| sv (vldo pl27 rfl (RdC.old hp) hg) <| clx (by repeat' (first | with_reducible exact Sb.all | exact Sb.nil | (apply Sb.cons; focus (first | ((repeat (first | with_reducible exact Tk.here | with_reducible apply Tk.there)); done) | ((repeat (first | exact Tk.here | apply Tk.there)); done))) | apply Sb.drop)) (disk_append_at (nm := nmS) (b := q.xs) hsF (by omega) (by omega) rfl hap) ct10 rfl fun r8 hr8 => ?_
          refine sv (vaI rfl) <| WL.nil <| WX.thenN <| WC.seq <| WC.seq <| WC.region <| sv (vmI rfl) <| sv (veq rfl rfl) <| WL.nil <| WX.thenN <| ?_
          refine WC.tt rfl ?_
          refine WC.seq <| WC.region <| sv (vmI rfl) <| sv (vadd rfl rfl (by omega)) <| sv (vaI rfl) <| WL.nil <| WX.thenN <| WC.seq <| WC.region <| sv (vmP rfl) <| clx (by repeat' (first | with_reducible exact Sb.all | exact Sb.nil | (apply Sb.cons; focus (first | ((repeat (first | with_reducible exact Tk.here | with_reducible apply Tk.there)); done) | ((repeat (first | exact Tk.here | apply Tk.there)); done))) | apply Sb.drop)) (disk_sync_at (nm := nmS) (by omega) hsy) ct11 rfl fun r10 hr10 => ?_
          refine sv (vaI rfl) <| WL.nil <| WX.thenN <| WC.seq <| WC.region <| sv (vmI rfl) <| sv (veq rfl rfl) <| WL.nil <| WX.thenN <| ?_
          refine WC.ff rfl ?_
          refine WC.skip <| WX.thenN <| WC.seq <| WC.region <| sv (vmI rfl) <| sv (vne rfl rfl) <| WL.nil <| WX.thenN <| ?_
          refine WC.tt rfl ?_
          refine WC.seq <| WC.region <| sv (vmP rfl) <| clx (by repeat' (first | with_reducible exact Sb.all | exact Sb.nil | (apply Sb.cons; focus (first | ((repeat (first | with_reducible exact Tk.here | with_reducible apply Tk.there)); done) | ((repeat (first | exact Tk.here | apply Tk.there)); done))) | apply Sb.drop)) (disk_sync_at (nm := nmS) (by have := hf.deeds; omega) hf.sync) ct11 rfl fun r12 hr12 => ?_
          refine sv (vaI rfl) <| WL.nil <| WX.thenN <| WC.seq <| WC.region <| sv (vmP rfl) <| sv (vmS rfl) <| sv (vmI rfl) <| sv (vix1 Try.underlying22 sz27 rfl rfl (by omega) (by omega) (RdC.old hp) (by rw [bss_length]; omega)) <| sv (vldo pl27 rfl (RdC.old hp) hg) <| clx (by repeat' (first | with_reducible exact Sb.all | exact Sb.nil | (apply Sb.cons; focus (first | ((repeat (first | with_reducible exact Tk.here | with_reducible apply Tk.there)); done) | ((repeat (first | exact Tk.here | apply Tk.there)); done))) | apply Sb.drop)) (disk_append_at (nm := nmS) (b := q.xs) hsF (by have := hf.deeds; omega) (by omega) rfl hf.append) ct10 rfl fun r15 hr15 => ?_
          refine sv (vaI rfl) <| WL.nil <| WX.thenN <| WC.seq <| WC.region <| sv (vmP rfl) <| clx (by repeat' (first | with_reducible exact Sb.all | exact Sb.nil | (apply Sb.cons; focus (first | ((repeat (first | with_reducible exact Tk.here | with_reducible apply Tk.there)); done) | ((repeat (first | exact Tk.here | apply Tk.there)); done))) | apply Sb.drop)) (disk_cut_at (nm := nmS) (by have := hf.deeds; omega) hf.cut) ct23 rfl fun r16 hr16 => ?_
          refine sv (vaI rfl) <| WL.nil <| WX.thenN <| WC.seq <| ?_
          refine WC.cutS [(106, .bool false)] [(0, .slice _ _ _), (1, .int _ _), (7, .pointer _), (9, .int _ _)] ⟨rfl, rfl, rfl, rfl, trivial⟩ ?_ fun ρh => ?_
          · -- law.go:192
            refine WC.region <| sv (vmI rfl) <| sv (vF (vne rfl rfl) (by omega)) <| sv (vmB rfl) <| svg rfl (vmI rfl) <| svg rfl (vmI rfl) <| svg rfl (vF (vne rfl rfl) (by omega)) <| sv (vpkf rfl) <| sv (vmB rfl) <| svg rfl (vmI rfl) <| svg rfl (vmI rfl) <| svg rfl (vF (vne rfl rfl) (by omega)) <| sv (vpkf rfl) <| sv (vmB rfl) <| svg rfl (vmI rfl) <| svg rfl (vmI rfl) <| svg rfl (vF (vne rfl rfl) (by omega)) <| sv (vpkf rfl) <| sv (vmB rfl) <| svg rfl (vmP rfl) <| gy rfl <| clx (by repeat' (first | with_reducible exact Sb.all | exact Sb.nil | (apply Sb.cons; focus (first | ((repeat (first | with_reducible exact Tk.here | with_reducible apply Tk.there)); done) | ((repeat (first | exact Tk.here | apply Tk.there)); done))) | apply Sb.drop)) (disk_up_at hf.off) ct20 rfl fun r17 hr17 => ?_
            refine sv (vpkf rfl) <| sv (vmB rfl) <| svg rfl (vmI rfl) <| svg rfl (vmI rfl) <| svg rfl (vsub rfl rfl (by omega)) <| svg rfl (vF (vne rfl rfl) (by omega)) <| sv (vpkf rfl) <| sv (vmB rfl) <| svg rfl (vmP rfl) <| gy rfl <| clx (by repeat' (first | with_reducible exact Sb.all | exact Sb.nil | (apply Sb.cons; focus (first | ((repeat (first | with_reducible exact Tk.here | with_reducible apply Tk.there)); done) | ((repeat (first | exact Tk.here | apply Tk.there)); done))) | apply Sb.drop)) (disk_deeds_at hf.deeds) ct21 rfl fun r19 hr19 => ?_
            refine svg rfl (vmI rfl) <| svg rfl (vF (vne rfl rfl) (by omega)) <| sv (vpkf rfl) <| sv (vmB rfl) <| svg rfl (vmP rfl) <| gy rfl <| clx (by repeat' (first | with_reducible exact Sb.all | exact Sb.nil | (apply Sb.cons; focus (first | ((repeat (first | with_reducible exact Tk.here | with_reducible apply Tk.there)); done) | ((repeat (first | exact Tk.here | apply Tk.there)); done))) | apply Sb.drop)) (disk_names_off hf.off) ct17 rfl fun r20 hr20 => ?_
            exact svg rfl (vlen Try.underlying36 rfl) <| svg rfl (vF (vne rfl rfl) (by omega)) <| sv (vpkf rfl) <| WL.nil <| WX.mid () trivial ⟨rfl, trivial⟩ ⟨rfl, rfl, rfl, rfl, trivial⟩ (fun _ h => Sb.own (by repeat' (first | with_reducible exact Sb.all | exact Sb.nil | (apply Sb.cons; focus (first | ((repeat (first | with_reducible exact Tk.here | with_reducible apply Tk.there)); done) | ((repeat (first | exact Tk.here | apply Tk.there)); done))) | apply Sb.drop)) h)
          refine WC.ff rfl ?_
          obtain ⟨s3, s4, ho1, hdo1, ho2, hdo2⟩ := hf.on (b := q.xs) (by omega)
          have hfd := hf.deeds
          refine WC.skip <| WX.thenN <| WC.seq <| WC.region <| sv (vmP rfl) <| clx (by repeat' (first | with_reducible exact Sb.all | exact Sb.nil | (apply Sb.cons; focus (first | ((repeat (first | with_reducible exact Tk.here | with_reducible apply Tk.there)); done) | ((repeat (first | exact Tk.here | apply Tk.there)); done))) | apply Sb.drop)) (disk_on) ct14 rfl fun r21 hr21 => ?_
          refine WL.nil <| WX.thenN <| ?_
          refine WC.cut0 [(6, .bool true)] [] (A) trivial ?_ fun ρh => ?_
          · -- law.go:196
            refine WC.region <| clx (by repeat' (first | with_reducible exact Sb.all | exact Sb.nil | (apply Sb.cons; focus (first | ((repeat (first | with_reducible exact Tk.here | with_reducible apply Tk.there)); done) | ((repeat (first | exact Tk.here | apply Tk.there)); done))) | apply Sb.drop)) (law2_awake) ct15 rfl fun r22 hr22 => ?_
            refine sv (vmB rfl) <| svg rfl (vmP rfl) <| svg rfl (vmS rfl) <| svg rfl (vmI rfl) <| svg rfl (vix1 Try.underlying22 sz27 rfl rfl (by omega) (by omega) (RdC.old hp) (by rw [bss_length]; omega)) <| svg rfl (vldo pl27 rfl (RdC.old hp) hg) <| gy rfl <| clx (by repeat' (first | with_reducible exact Sb.all | exact Sb.nil | (apply Sb.cons; focus (first | ((repeat (first | with_reducible exact Tk.here | with_reducible apply Tk.there)); done) | ((repeat (first | exact Tk.here | apply Tk.there)); done))) | apply Sb.drop)) (disk_append_at (nm := nmS) (b := q.xs) hsF (by dsimp only; omega) (by omega) rfl ho1) ct10 rfl fun r25 hr25 => ?_
            refine svg rfl (vT (veq rfl rfl) (by omega)) <| sv (vpkt rfl) <| sv (vmB rfl) <| svg rfl (vmP rfl) <| gy rfl <| clx (by repeat' (first | with_reducible exact Sb.all | exact Sb.nil | (apply Sb.cons; focus (first | ((repeat (first | with_reducible exact Tk.here | with_reducible apply Tk.there)); done) | ((repeat (first | exact Tk.here | apply Tk.there)); done))) | apply Sb.drop)) (disk_sync_at (nm := nmS) (by omega) ho2) ct11 rfl fun r26 hr26 => ?_
            refine svg rfl (vT (veq rfl rfl) (by omega)) <| sv (vpkt rfl) <| sv (vmB rfl) <| svg rfl (vmP rfl) <| gy rfl <| clx (by repeat' (first | with_reducible exact Sb.all | exact Sb.nil | (apply Sb.cons; focus (first | ((repeat (first | with_reducible exact Tk.here | with_reducible apply Tk.there)); done) | ((repeat (first | exact Tk.here | apply Tk.there)); done))) | apply Sb.drop)) (disk_deeds_at hdo2) ct21 rfl fun r27 hr27 => ?_
            exact svg rfl (vmI rfl) <| svg rfl (vadd rfl rfl (by omega)) <| svg rfl (vT (veq rfl rfl) (by omega)) <| sv (vpkt rfl) <| sv (vaB rfl) <| WL.nil <| WX.mid () trivial ⟨rfl, trivial⟩ trivial (fun _ h => Sb.own (by repeat' (first | with_reducible exact Sb.all | exact Sb.nil | (apply Sb.cons; focus (first | ((repeat (first | with_reducible exact Tk.here | with_reducible apply Tk.there)); done) | ((repeat (first | exact Tk.here | apply Tk.there)); done))) | apply Sb.drop)) h)
          exact WC.ret <| WX.blockR <| WX.thenR <| WX.thenR <| WX.blockR <| WX.thenR <| WX.ret1 rfl (()) (trivial) rfl (fun _ h => Sb.own (by repeat' (first | with_reducible exact Sb.all | exact Sb.nil | (apply Sb.cons; focus (first | ((repeat (first | with_reducible exact Tk.here | with_reducible apply Tk.there)); done) | ((repeat (first | exact Tk.here | apply Tk.there)); done))) | apply Sb.drop)) h)
        · -- os
          obtain ⟨s1, hap, har1, hsm⟩ := har.append (b := q.xs) (by omega) (by omega)
          have hd1 := har1.deeds
          obtain ⟨s2, hsy, har2⟩ := har1.sync hsm hlt2
          refine WC.skip <| WX.thenN <| WC.seq <| WC.region <| sv (vmP rfl) <| sv (vmS rfl) <| sv (vmI rfl) <| sv (vix1 Try.underlying22 sz27 rfl rfl (by omega) (by omega) (RdC.old hp) (by rw [bss_length]; omega)) <| sv (vldo pl27 rfl (RdC.old hp) hg) <| clx (by repeat' (first | with_reducible exact Sb.all | exact Sb.nil | (apply Sb.cons; focus (first | ((repeat (first | with_reducible exact Tk.here | with_reducible apply Tk.there)); done) | ((repeat (first | exact Tk.here | apply Tk.there)); done))) | apply Sb.drop)) (disk_append_at (nm := nmS) (b := q.xs) hsF (by omega) (by omega) rfl hap) ct10 rfl fun r8 hr8 => ?_
          refine sv (vaI rfl) <| WL.nil <| WX.thenN <| WC.seq <| WC.seq <| WC.region <| sv (vmI rfl) <| sv (veq rfl rfl) <| WL.nil <| WX.thenN <| ?_
          refine WC.tt rfl ?_
          refine WC.seq <| WC.region <| sv (vmI rfl) <| sv (vadd rfl rfl (by omega)) <| sv (vaI rfl) <| WL.nil <| WX.thenN <| WC.seq <| WC.region <| sv (vmP rfl) <| clx (by repeat' (first | with_reducible exact Sb.all | exact Sb.nil | (apply Sb.cons; focus (first | ((repeat (first | with_reducible exact Tk.here | with_reducible apply Tk.there)); done) | ((repeat (first | exact Tk.here | apply Tk.there)); done))) | apply Sb.drop)) (disk_sync_at (nm := nmS) (by omega) hsy) ct11 rfl fun r10 hr10 => ?_
          refine sv (vaI rfl) <| WL.nil <| WX.thenN <| WC.seq <| WC.region <| sv (vmI rfl) <| sv (veq rfl rfl) <| WL.nil <| WX.thenN <| ?_
          refine WC.tt rfl ?_
          refine WC.region <| sv (vmI rfl) <| sv (vadd rfl rfl (by omega)) <| sv (vaI rfl) <| WL.nil <| WX.thenN <| WC.seq <| WC.region <| sv (vmI rfl) <| sv (vne rfl rfl) <| WL.nil <| WX.thenN <| ?_
          refine WC.ff rfl ?_
          exact WC.skip <| WX.blockN <| WX.thenN <| WC.region <| sv (vmI rfl) <| sv (vadd rfl rfl (by omega)) <| sv (vaI rfl) <| WL.nil <| WX.again ((i + 1, s2)) (⟨by omega, by show Ar n (2 * ((i + 1 : Nat) : Int)) (256 * (i + 1)) s2; rw [show 2 * ((i + 1 : Nat) : Int) = 2 * (i : Int) + 1 + 1 by omega]; exact har2.more (by omega), by show 2 * ((i + 1 : Nat) : Int) < n; omega⟩) (by show ps.length - (i + 1) < ps.length - i; omega) ⟨rfl, rfl, trivial⟩ ⟨rfl, rfl, rfl, trivial⟩ (fun _ h => Sb.own (by repeat' (first | with_reducible exact Sb.all | exact Sb.nil | (apply Sb.cons; focus (first | ((repeat (first | with_reducible exact Tk.here | with_reducible apply Tk.there)); done) | ((repeat (first | exact Tk.here | apply Tk.there)); done))) | apply Sb.drop)) h)
    · -- else
      refine WC.exit <| WX.thenE <| WX.thenE <| WX.blockH <| WX.thenN <| ?_
      refine WC.cut0 [(6, .bool true)] [] (A) trivial ?_ fun ρh => ?_
      · -- law.go:199
        refine WC.region <| clx (by repeat' (first | with_reducible exact Sb.all | exact Sb.nil | (apply Sb.cons; focus (first | ((repeat (first | with_reducible exact Tk.here | with_reducible apply Tk.there)); done) | ((repeat (first | exact Tk.here | apply Tk.there)); done))) | apply Sb.drop)) (law2_awake) ct15 rfl fun r30 hr30 => ?_
        refine sv (vmB rfl) <| svg rfl (vmI rfl) <| svg rfl (vmS rfl) <| svg rfl (vlen Try.underlying22 rfl) <| svg rfl (vmul rfl rfl (by omega)) <| svg rfl (vT (veq rfl rfl) (by omega)) <| sv (vpkt rfl) <| sv (vmB rfl) <| svg rfl (vmI rfl) <| svg rfl (vmI rfl) <| svg rfl (vT (vlt rfl rfl) (by omega)) <| sv (vpkt rfl) <| sv (vmB rfl) <| svg rfl (vmP rfl) <| gy rfl <| clx (by repeat' (first | with_reducible exact Sb.all | exact Sb.nil | (apply Sb.cons; focus (first | ((repeat (first | with_reducible exact Tk.here | with_reducible apply Tk.there)); done) | ((repeat (first | exact Tk.here | apply Tk.there)); done))) | apply Sb.drop)) (disk_up_at har.off) ct20 rfl fun r32 hr32 => ?_
        exact sv (vpkt rfl) <| sv (vaB rfl) <| WL.nil <| WX.mid () trivial ⟨rfl, trivial⟩ trivial (fun _ h => Sb.own (by repeat' (first | with_reducible exact Sb.all | exact Sb.nil | (apply Sb.cons; focus (first | ((repeat (first | with_reducible exact Tk.here | with_reducible apply Tk.there)); done) | ((repeat (first | exact Tk.here | apply Tk.there)); done))) | apply Sb.drop)) h)
      exact WC.ret <| WX.ret1 rfl (()) (trivial) rfl (fun _ h => Sb.own (by repeat' (first | with_reducible exact Sb.all | exact Sb.nil | (apply Sb.cons; focus (first | ((repeat (first | with_reducible exact Tk.here | with_reducible apply Tk.there)); done) | ((repeat (first | exact Tk.here | apply Tk.there)); done))) | apply Sb.drop)) h)
end Go.Proofs.Ytijbgeboaakmmaa
