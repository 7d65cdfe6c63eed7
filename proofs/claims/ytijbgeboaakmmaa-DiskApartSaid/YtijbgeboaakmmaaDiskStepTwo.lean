/-
  Layer 2: any call to a disk and to a reference that stand apart.
-/
import Derived.Test.YtijbgeboaakmmaaDiskDoesA
set_option linter.unusedVariables false
set_option linter.unusedSimpArgs false
set_option maxRecDepth 4000
namespace Go.Proofs.Ytijbgeboaakmmaa
open Go.Sl Go.RowKit

theorem pd_rd2 {w0 w : World} {d r N : Nat} {st sr : DSt} {A : List HProp} (H : Own w0 (rdisk r N sr :: pdisk d st :: A) w) : Own w0 (pdisk d st :: rdisk r (N + 1) sr :: A) w := (rdisk_mono (Nat.le_succ N) H).pk1
theorem pdisk_len {w0 w : World} {d : Nat} {st : DSt} {A : List HProp} (H : Own w0 (pdisk d st :: A) w) : ∀ (nm : ByteArray) (bs : List UInt8) (e : Int), readS nm st = (bs, e) → bs.length ≤ 16777216 := by
  obtain ⟨x, hr, _⟩ := pdisk_open H
  intro nm bs e hb
  unfold readS at hb
  split at hb
  · cases hb; exact Nat.zero_le _
  · cases hf : st.files nm with
    | none => rw [hf] at hb; cases hb; exact Nat.zero_le _
    | some v =>
      rw [hf] at hb
      obtain ⟨j, y, hj, rfl, rfl⟩ := hr.at hf
      cases hb
      exact (hr.ok y (List.mem_of_getElem? hj)).2
theorem law_step2 {w0 : World} {A : List HProp} {d r N : Nat} {k n p : Int} {nm : ByteArray} {b : Sla UInt8} {st sr : DSt} (hN : N + 1 ≤ 1099511627776) (hs : nm.size ≤ 140737488351232) (hd : 0 ≤ st.deeds ∧ st.deeds + 1 ≤ 9223372036854775807) (hdr : 0 ≤ sr.deeds ∧ sr.deeds + 1 ≤ 9223372036854775807) (hNm : Nm N st) (hR : RdC w0 A b.base (u8s b.xs)) (hb : b.xs.length ≤ 140737488351232) (hn : n ≤ 9223372036854775807) :
    Fun Try.prog w0 19 [.pointer (some ⟨d, 0, none⟩), .pointer (some ⟨r, 0, none⟩), .agg (ocel k nm b n p).toArray] (pdisk d st :: rdisk r N sr :: A)
      (Ret w0 (fun _ : Bool => True) (fun t => .bool t) (fun _ => pdisk d (stepS k nm b.xs n p st) :: rdisk r (N + 1) (stepS k nm b.xs n p sr) :: A)) := by
  refine Fun.known (fun w h => pdisk_len h) fun hlen => ?_
  refine Fun.enter Try.func19 rfl Try.ntmps19 rfl ?_
  refine WC.seq <| WC.region <| bxc (v := .agg _) (cs := [.int _ _, .string _, .slice _ _ _, .int _ _, .int _ _]) rfl rfl fun b1 => sv (vaB rfl) <| WL.nil <| WX.thenN <| WC.seq <| WC.seq <| WC.region <| sv (vfldpz fl48f0 rfl) <| sv (vldc pl3 rfl) <| WL.nil <| WX.thenN <| WC.block <| WC.seq <| WC.region <| sv (veq rfl rfl) <| sv (vaB rfl) <| WL.nil <| WX.thenN <| ?_
  refine WC.ite rfl (fun h1 => ?_) (fun h1 => ?_)
  · -- then
    have hst : ∀ st, stepS k nm b.xs n p st = (appendS nm b.xs st).1 := fun st => by unfold stepS; rw [if_pos h1]
    rw [hst, hst]
    obtain ⟨s1, e1, he⟩ : ∃ s1 e1, appendS nm b.xs st = (s1, e1) := ⟨_, _, rfl⟩
    obtain ⟨s2, e2, he2⟩ : ∃ s1 e1, appendS nm b.xs sr = (s1, e1) := ⟨_, _, rfl⟩
    have hRi : Reads w0 A b.base (u8s b.xs) := ⟨hR⟩
    rw [he, he2]
    refine WC.seq <| WC.region <| bsl0 Try.underlying27 zt5 fun b3 => sv (vfldp fl48f2 rfl) <| sv (vldc pl27 rfl) <| pm (fun _ h => (show Own w0 (row (some ⟨b3, 0, none⟩) 0 1 5 (u8s []) :: cel b1 (ocel k nm b n p) 48 :: pdisk d st :: rdisk r N sr :: A) _ from h)) <| apb Try.underlying27 zt5 rfl rfl rfl rfl (hR.mono fun _ h => h.tail.tail.tail.tail) (by omega) fun base5 c5 hc5 =>sv (vaS rfl) <| WL.nil <| WX.thenN <| WC.seq <| WC.region <| sv (vmP rfl) <| sv (vfldp fl48f1 rfl) <| sv (vldc pl9 rfl) <| sv (vmS rfl) <| clx (by repeat' (first | with_reducible exact Sb.all | exact Sb.nil | (apply Sb.cons; focus (first | ((repeat (first | with_reducible exact Tk.here | with_reducible apply Tk.there)); done) | ((repeat (first | exact Tk.here | apply Tk.there)); done))) | apply Sb.drop)) (disk_append_at (b := b.xs) hs hd hb (by omega) he) ct10 rfl fun r7 hr7 => ?_
    refine sv (vaI rfl) <| WL.nil <| WX.thenN <| WC.seq <| WC.seq <| WC.region <| sv (vaI rfl) <| WL.nil <| WX.thenN <| WC.block <| ?_
    refine WC.loop (ι := Nat × List UInt8) (fun i => [(9, .int .i64 i.1)]) [(1, .pointer _), (5, _), (7, .slice _ _ _), (8, .int _ _)] (fun i => row base5 c5 1 5 (u8s i.2) :: pdisk d s1 :: rdisk r N sr :: cel b1 (ocel k nm b n p) 48 :: A) (fun i => i.1 ≤ b.xs.length ∧ i.2.length = b.xs.length) (fun i => b.xs.length - i.1) ((0, b.xs)) (⟨Nat.zero_le _, rfl⟩) ⟨rfl, trivial⟩ ⟨rfl, rfl, rfl, rfl, trivial⟩ (fun _ h => Sb.own (by repeat' (first | with_reducible exact Sb.all | exact Sb.nil | (apply Sb.cons; focus (first | ((repeat (first | with_reducible exact Tk.here | with_reducible apply Tk.there)); done) | ((repeat (first | exact Tk.here | apply Tk.there)); done))) | apply Sb.drop)) h) ?_
    rintro ⟨i, l⟩ ⟨hi1, hi2⟩ ρh
    dsimp only at hi1 hi2 ⊢
    refine WC.seq <| WC.seq <| WC.region <| sv (vmI rfl) <| sv (vmS rfl) <| sv (vlen Try.underlying27 rfl) <| sv (vlt rfl rfl) <| WL.nil <| WX.thenN <| ?_
    refine WC.ite rfl (fun h2 => ?_) (fun h2 => ?_)
    · -- then
      exact WC.skip <| WX.thenN <| WC.seq <| WC.block <| WC.region <| sv (vmS rfl) <| sv (vmI rfl) <| sv (vix1 Try.underlying27 sz5 rfl rfl (by omega) (by omega) (RdC.of_row (c := c5) (s := 1) (e := 5) (vs := u8s l) (by simp)) (by rw [u8s_len]; omega)) <| strp (v := .int .u8 88) pl5 sz5 rfl rfl rfl (by rw [u8s_len]; omega) <| WL.nil <| WX.blockN <| WX.thenN <| WC.region <| sv (vmI rfl) <| sv (vadd rfl rfl (by omega)) <| sv (vaI rfl) <| WL.nil <| WX.again ((i + 1, l.set i 88)) (⟨by omega, by rw [List.length_set]; exact hi2⟩) (by omega) ⟨rfl, trivial⟩ ⟨rfl, rfl, rfl, rfl, trivial⟩ (fun w h => by rw [← u8s_set0]; exact Sb.own (by repeat' (first | with_reducible exact Sb.all | exact Sb.nil | (apply Sb.cons; focus (first | ((repeat (first | with_reducible exact Tk.here | with_reducible apply Tk.there)); done) | ((repeat (first | exact Tk.here | apply Tk.there)); done))) | apply Sb.drop)) h)
    · -- else
      refine WC.exit <| WX.thenE <| WX.thenE <| WX.blockH <| WX.thenN <| WC.seq <| WC.region <| sv (vmI rfl) <| sv (vmP rfl) <| sv (vfldp fl48f1 rfl) <| sv (vldc pl9 rfl) <| sv (vfldp fl48f2 rfl) <| sv (vldc pl27 rfl) <| clx (by repeat' (first | with_reducible exact Sb.all | exact Sb.nil | (apply Sb.cons; focus (first | ((repeat (first | with_reducible exact Tk.here | with_reducible apply Tk.there)); done) | ((repeat (first | exact Tk.here | apply Tk.there)); done))) | apply Sb.drop)) (ref_append_at (b := b.xs) hN rfl hdr he2) ct32 rfl fun r13 hr13 => ?_
      exact sv (veq rfl rfl) <| sv (vaB rfl) <| WL.nil <| WX.thenN <| WC.ret <| WX.blockR <| WX.thenR <| WX.ret1 rfl (decide (e1 = e2)) (trivial) rfl (fun _ h => Sb.own (by repeat' (first | with_reducible exact Sb.all | exact Sb.nil | (apply Sb.cons; focus (first | ((repeat (first | with_reducible exact Tk.here | with_reducible apply Tk.there)); done) | ((repeat (first | exact Tk.here | apply Tk.there)); done))) | apply Sb.drop)) h)
  · -- else
    refine WC.seq <| WC.region <| sv (veq rfl rfl) <| sv (vaB rfl) <| WL.nil <| WX.thenN <| ?_
    refine WC.ite rfl (fun h3 => ?_) (fun h3 => ?_)
    · -- then
      have hst : ∀ st, stepS k nm b.xs n p st = (syncS nm st).1 := fun st => by unfold stepS; rw [if_neg h1, if_pos h3]
      rw [hst, hst]
      obtain ⟨s1, e1, he⟩ : ∃ s1 e1, syncS nm st = (s1, e1) := ⟨_, _, rfl⟩
      obtain ⟨s2, e2, he2⟩ : ∃ s1 e1, syncS nm sr = (s1, e1) := ⟨_, _, rfl⟩
      rw [he, he2]
      refine WC.seq <| WC.plan (.pre [0, 1, 2] (.one [4, 5, 6] 3 (.bar [] 7 (.done [8, 9])))) rfl (by kernel_rfl) <| WPl.preC <| dv (fun g => (vmP rfl)) <| dv (fun g => (vfldp fl48f1 rfl)) <| dv (fun g => (vldc pl9 rfl)) <| WD.nil <| WPl.oneX [pdisk d st] (by repeat' (first | exact Spl.nil | (apply Spl.cons; focus (first | ((repeat (first | with_reducible exact Tk.here | with_reducible apply Tk.there)); done) | ((repeat (first | exact Tk.here | apply Tk.there)); done))))) (fun g => by infer_instance) ?_
      refine dv (fun g => (vmP rfl)) <| dv (fun g => (vfldp fl48f1 rfl)) <| dv (fun g => (vldc pl9 rfl)) <| WD.eff rfl <| clx (by repeat' (first | with_reducible exact Sb.all | exact Sb.nil | (apply Sb.cons; focus (first | ((repeat (first | with_reducible exact Tk.here | with_reducible apply Tk.there)); done) | ((repeat (first | exact Tk.here | apply Tk.there)); done))) | apply Sb.drop)) (disk_sync_at hd he) ct11 rfl fun r15 hr15 => ?_
      refine WL.nil <| WX.br <| WPl.barC <| WD.eff rfl <| clx (by repeat' (first | with_reducible exact Sb.all | exact Sb.nil | (apply Sb.cons; focus (first | ((repeat (first | with_reducible exact Tk.here | with_reducible apply Tk.there)); done) | ((repeat (first | exact Tk.here | apply Tk.there)); done))) | apply Sb.drop)) (ref_sync_at hdr (by omega) he2) ct33 rfl fun r17 hr17 => ?_
      exact WL.nil <| WX.brT <| WPl.finC <| dv (fun g => (veq rfl rfl)) <| dv (fun g => (vaB rfl)) <| WD.nil <| WX.thenN <| WC.ret <| WX.blockR <| WX.thenR <| WX.ret1 rfl (decide (e1 = e2)) (trivial) rfl (fun w h => pd_rd2 (Sb.own (by repeat' (first | with_reducible exact Sb.all | exact Sb.nil | (apply Sb.cons; focus (first | ((repeat (first | with_reducible exact Tk.here | with_reducible apply Tk.there)); done) | ((repeat (first | exact Tk.here | apply Tk.there)); done))) | apply Sb.drop)) h))
    · -- else
      refine WC.seq <| WC.region <| sv (veq rfl rfl) <| sv (vaB rfl) <| WL.nil <| WX.thenN <| ?_
      refine WC.ite rfl (fun h4 => ?_) (fun h4 => ?_)
      · -- then
        have hst : ∀ st, stepS k nm b.xs n p st = (cutS nm n st).1 := fun st => by unfold stepS; rw [if_neg h1, if_neg h3, if_pos h4]
        rw [hst, hst]
        obtain ⟨s1, e1, he⟩ : ∃ s1 e1, cutS nm n st = (s1, e1) := ⟨_, _, rfl⟩
        obtain ⟨s2, e2, he2⟩ : ∃ s1 e1, cutS nm n sr = (s1, e1) := ⟨_, _, rfl⟩
        rw [he, he2]
        refine WC.seq <| WC.plan (.pre [0, 1, 2, 3, 4] (.one [6, 7, 8, 9, 10] 5 (.bar [] 11 (.done [12, 13])))) rfl (by kernel_rfl) <| WPl.preC <| dv (fun g => (vmP rfl)) <| dv (fun g => (vfldp fl48f1 rfl)) <| dv (fun g => (vldc pl9 rfl)) <| dv (fun g => (vfldp fl48f3 rfl)) <| dv (fun g => (vldc pl3 rfl)) <| WD.nil <| WPl.oneX [pdisk d st] (by repeat' (first | exact Spl.nil | (apply Spl.cons; focus (first | ((repeat (first | with_reducible exact Tk.here | with_reducible apply Tk.there)); done) | ((repeat (first | exact Tk.here | apply Tk.there)); done))))) (fun g => by infer_instance) ?_
        refine dv (fun g => (vmP rfl)) <| dv (fun g => (vfldp fl48f1 rfl)) <| dv (fun g => (vldc pl9 rfl)) <| dv (fun g => (vfldp fl48f3 rfl)) <| dv (fun g => (vldc pl3 rfl)) <| WD.eff rfl <| clx (by repeat' (first | with_reducible exact Sb.all | exact Sb.nil | (apply Sb.cons; focus (first | ((repeat (first | with_reducible exact Tk.here | with_reducible apply Tk.there)); done) | ((repeat (first | exact Tk.here | apply Tk.there)); done))) | apply Sb.drop)) (disk_cut_at hd he) ct23 rfl fun r20 hr20 => ?_
        refine WL.nil <| WX.br <| WPl.barC <| WD.eff rfl <| clx (by repeat' (first | with_reducible exact Sb.all | exact Sb.nil | (apply Sb.cons; focus (first | ((repeat (first | with_reducible exact Tk.here | with_reducible apply Tk.there)); done) | ((repeat (first | exact Tk.here | apply Tk.there)); done))) | apply Sb.drop)) (ref_cut_at hdr (by omega) he2) ct34 rfl fun r23 hr23 => ?_
        exact WL.nil <| WX.brT <| WPl.finC <| dv (fun g => (veq rfl rfl)) <| dv (fun g => (vaB rfl)) <| WD.nil <| WX.thenN <| WC.ret <| WX.blockR <| WX.thenR <| WX.ret1 rfl (decide (e1 = e2)) (trivial) rfl (fun w h => pd_rd2 (Sb.own (by repeat' (first | with_reducible exact Sb.all | exact Sb.nil | (apply Sb.cons; focus (first | ((repeat (first | with_reducible exact Tk.here | with_reducible apply Tk.there)); done) | ((repeat (first | exact Tk.here | apply Tk.there)); done))) | apply Sb.drop)) h))
      · -- else
        refine WC.seq <| WC.region <| sv (veq rfl rfl) <| sv (vaB rfl) <| WL.nil <| WX.thenN <| ?_
        refine WC.ite rfl (fun h5 => ?_) (fun h5 => ?_)
        · -- then
          have hst : ∀ st, stepS k nm b.xs n p st = st := fun st => by unfold stepS; rw [if_neg h1, if_neg h3, if_neg h4, if_pos h5]
          rw [hst, hst]
          obtain ⟨bs, e1, he⟩ : ∃ bs e1, readS nm st = (bs, e1) := ⟨_, _, rfl⟩
          obtain ⟨cs, e2, he2⟩ : ∃ bs e1, readS nm sr = (bs, e1) := ⟨_, _, rfl⟩
          refine WC.ex (B := fun x : Option Addr × Nat × List RF => cel r (rcells x.1 x.2.2.length x.2.1 sr) 45 :: row x.1 x.2.1 3 51 (fcells x.2.2) :: rows 5 (x.2.2.map (·.b)) :: pdisk d st :: cel b1 (ocel k nm b n p) 48 :: A) (fun w h => rdisk_open (Sb.own (by repeat' (first | with_reducible exact Sb.all | exact Sb.nil | (apply Sb.cons; focus (first | ((repeat (first | with_reducible exact Tk.here | with_reducible apply Tk.there)); done) | ((repeat (first | exact Tk.here | apply Tk.there)); done))) | apply Sb.drop)) h)) ?_
          rintro ⟨base, c, l⟩ ⟨hl, hc⟩
          dsimp only at hl hc ⊢
          have hbl := hlen nm bs e1 he
          refine WC.seq <| WC.region <| sv (vmP rfl) <| sv (vfldp fl48f1 rfl) <| sv (vldc pl9 rfl) <| clx (by repeat' (first | with_reducible exact Sb.all | exact Sb.nil | (apply Sb.cons; focus (first | ((repeat (first | with_reducible exact Tk.here | with_reducible apply Tk.there)); done) | ((repeat (first | exact Tk.here | apply Tk.there)); done))) | apply Sb.drop)) (disk_read_at he) ct13 rfl fun r25 hr25 => ?_
          refine sv vmv <| sv (vex rfl rfl) <| sv (vex rfl rfl) <| sv (vaS rfl) <| sv (vaI rfl) <| WL.nil <| WX.thenN <| WC.seq <| WC.region <| sv (vmP rfl) <| sv (vfldp fl48f1 rfl) <| sv (vldc pl9 rfl) <| clx (by repeat' (first | with_reducible exact Sb.all | exact Sb.nil | (apply Sb.cons; focus (first | ((repeat (first | with_reducible exact Tk.here | with_reducible apply Tk.there)); done) | ((repeat (first | exact Tk.here | apply Tk.there)); done))) | apply Sb.drop)) (ref_read_all (by omega) hl he2) ct35 rfl fun r27 hr27 => ?_
          have hrR : Reads w0 _ r27.1 (u8s cs) := ⟨hr27.1⟩
          refine sv vmv <| sv (vex rfl rfl) <| sv (vex rfl rfl) <| sv (vaS rfl) <| sv (vaI rfl) <| WL.nil <| WX.thenN <| WC.seq <| ?_
          refine WC.cutS [(99, .bool (decide (e1 ≠ e2 ∨ (⟨bs.toArray⟩ : ByteArray) ≠ ⟨cs.toArray⟩)))] [(10, .slice _ _ _)] ⟨rfl, trivial⟩ ?_ fun ρh => ?_
          · -- law.go:69
            refine WC.region <| sv (vmI rfl) <| sv (vmI rfl) <| svs (vne rfl rfl) (fun q1 => ?_) (fun q1 => ?_)
            ·
              exact sv (vmB rfl) <| sng rfl <| sng rfl <| sng rfl <| sng rfl <| sng rfl <| sv (vpkt rfl) <| WL.nil <| WX.mid () trivial ⟨bT (by first | omega | simp_all | grind), trivial⟩ ⟨rfl, trivial⟩ (fun _ h => Sb.own (by repeat' (first | with_reducible exact Sb.all | exact Sb.nil | (apply Sb.cons; focus (first | ((repeat (first | with_reducible exact Tk.here | with_reducible apply Tk.there)); done) | ((repeat (first | exact Tk.here | apply Tk.there)); done))) | apply Sb.drop)) h)
            ·
              exact sv (vmB rfl) <| svg rfl (vmS rfl) <| svg rfl (vstr Try.underlying27 Try.underlying5 Try.underlying9 rfl reads (by simp)) <| svg rfl (vmS rfl) <| svg rfl (vstr Try.underlying27 Try.underlying5 Try.underlying9 rfl reads (by simp)) <| svg rfl (vnes rfl rfl) <| sv (vpkf rfl) <| WL.nil <| WX.mid () trivial ⟨bI (by first | omega | simp_all | grind), trivial⟩ ⟨rfl, trivial⟩ (fun _ h => Sb.own (by repeat' (first | with_reducible exact Sb.all | exact Sb.nil | (apply Sb.cons; focus (first | ((repeat (first | with_reducible exact Tk.here | with_reducible apply Tk.there)); done) | ((repeat (first | exact Tk.here | apply Tk.there)); done))) | apply Sb.drop)) h)
          refine WC.ite rfl (fun h6 => ?_) (fun h6 => ?_)
          · -- then
            exact WC.seq <| WC.region <| sv (vaB rfl) <| WL.nil <| WX.thenN <| WC.ret <| WX.thenR <| WX.blockR <| WX.thenR <| WX.ret1 rfl (false) (trivial) rfl (fun w h => (rdisk_mk hl ⟨hc.1, by omega⟩ (Sb.own (by repeat' (first | with_reducible exact Sb.all | exact Sb.nil | (apply Sb.cons; focus (first | ((repeat (first | with_reducible exact Tk.here | with_reducible apply Tk.there)); done) | ((repeat (first | exact Tk.here | apply Tk.there)); done))) | apply Sb.drop)) h)).pk1)
          · -- else
            refine WC.skip <| WX.thenN <| WC.seq <| WC.region <| sv (vaI rfl) <| WL.nil <| WX.thenN <| WC.block <| ?_
            refine WC.loop (ι := Nat × List UInt8) (fun i => [(14, .int .i64 i.1)]) [(10, .slice _ _ _)] (fun i => row r25.1 r25.2 1 5 (u8s i.2) :: cel r (rcells base l.length c sr) 45 :: row base c 3 51 (fcells l) :: rows 5 (l.map (·.b)) :: pdisk d st :: A) (fun i => i.1 ≤ bs.length ∧ i.2.length = bs.length) (fun i => bs.length - i.1) ((0, bs)) (⟨Nat.zero_le _, rfl⟩) ⟨rfl, trivial⟩ ⟨rfl, trivial⟩ (fun _ h => Sb.own (by repeat' (first | with_reducible exact Sb.all | exact Sb.nil | (apply Sb.cons; focus (first | ((repeat (first | with_reducible exact Tk.here | with_reducible apply Tk.there)); done) | ((repeat (first | exact Tk.here | apply Tk.there)); done))) | apply Sb.drop)) h) ?_
            rintro ⟨i, l'⟩ ⟨hi1, hi2⟩ ρh
            dsimp only at hi1 hi2 ⊢
            refine WC.seq <| WC.seq <| WC.region <| sv (vmI rfl) <| sv (vmS rfl) <| sv (vlen Try.underlying27 rfl) <| sv (vlt rfl rfl) <| WL.nil <| WX.thenN <| ?_
            refine WC.ite rfl (fun h7 => ?_) (fun h7 => ?_)
            · -- then
              exact WC.skip <| WX.thenN <| WC.seq <| WC.block <| WC.region <| sv (vmS rfl) <| sv (vmI rfl) <| sv (vix1 Try.underlying27 sz5 rfl rfl (by omega) (by omega) (RdC.of_row (c := r25.2) (s := 1) (e := 5) (vs := u8s l') (by simp)) (by rw [u8s_len]; omega)) <| strp (v := .int .u8 77) pl5 sz5 rfl rfl rfl (by rw [u8s_len]; omega) <| WL.nil <| WX.blockN <| WX.thenN <| WC.region <| sv (vmI rfl) <| sv (vadd rfl rfl (by omega)) <| sv (vaI rfl) <| WL.nil <| WX.again ((i + 1, l'.set i 77)) (⟨by omega, by rw [List.length_set]; exact hi2⟩) (by omega) ⟨rfl, trivial⟩ ⟨rfl, trivial⟩ (fun w h => by rw [← u8s_set0]; exact Sb.own (by repeat' (first | with_reducible exact Sb.all | exact Sb.nil | (apply Sb.cons; focus (first | ((repeat (first | with_reducible exact Tk.here | with_reducible apply Tk.there)); done) | ((repeat (first | exact Tk.here | apply Tk.there)); done))) | apply Sb.drop)) h)
            · -- else
              exact WC.exit <| WX.thenE <| WX.thenE <| WX.blockH <| WX.blockN <| WX.thenN <| WC.seq <| WC.region <| sv (vaB rfl) <| WL.nil <| WX.thenN <| WC.ret <| WX.ret1 rfl (true) (trivial) rfl (fun w h => (rdisk_mk hl ⟨hc.1, by omega⟩ (Sb.own (by repeat' (first | with_reducible exact Sb.all | exact Sb.nil | (apply Sb.cons; focus (first | ((repeat (first | with_reducible exact Tk.here | with_reducible apply Tk.there)); done) | ((repeat (first | exact Tk.here | apply Tk.there)); done))) | apply Sb.drop)) h)).pk1)
        · -- else
          refine WC.seq <| WC.region <| sv (veq rfl rfl) <| sv (vaB rfl) <| WL.nil <| WX.thenN <| ?_
          refine WC.ite rfl (fun h8 => ?_) (fun h8 => ?_)
          · -- then
            have hst : ∀ st, stepS k nm b.xs n p st = { st with fuse := max n 0, keep := p } := fun st => by unfold stepS; rw [if_neg h1, if_neg h3, if_neg h4, if_neg h5, if_pos h8]
            rw [hst, hst]
            refine WC.seq <| WC.region <| sv (vmP rfl) <| sv (vfldp fl48f3 rfl) <| sv (vldc pl3 rfl) <| sv (vfldp fl48f4 rfl) <| sv (vldc pl3 rfl) <| clx (by repeat' (first | with_reducible exact Sb.all | exact Sb.nil | (apply Sb.cons; focus (first | ((repeat (first | with_reducible exact Tk.here | with_reducible apply Tk.there)); done) | ((repeat (first | exact Tk.here | apply Tk.there)); done))) | apply Sb.drop)) (disk_arm hn) ct22 rfl fun r35 hr35 => ?_
            refine WL.nil <| WX.thenN <| WC.region <| sv (vmP rfl) <| sv (vfldp fl48f3 rfl) <| sv (vldc pl3 rfl) <| sv (vfldp fl48f4 rfl) <| sv (vldc pl3 rfl) <| clx (by repeat' (first | with_reducible exact Sb.all | exact Sb.nil | (apply Sb.cons; focus (first | ((repeat (first | with_reducible exact Tk.here | with_reducible apply Tk.there)); done) | ((repeat (first | exact Tk.here | apply Tk.there)); done))) | apply Sb.drop)) (ref_arm (by omega)) ct36 rfl fun r38 hr38 => ?_
            exact WL.nil <| WX.blockN <| WX.thenN <| WC.seq <| WC.region <| sv (vaB rfl) <| WL.nil <| WX.thenN <| WC.ret <| WX.ret1 rfl (true) (trivial) rfl (fun w h => pd_rd2 (Sb.own (by repeat' (first | with_reducible exact Sb.all | exact Sb.nil | (apply Sb.cons; focus (first | ((repeat (first | with_reducible exact Tk.here | with_reducible apply Tk.there)); done) | ((repeat (first | exact Tk.here | apply Tk.there)); done))) | apply Sb.drop)) h))
          · -- else
            refine WC.seq <| WC.region <| sv (veq rfl rfl) <| sv (vaB rfl) <| WL.nil <| WX.thenN <| ?_
            refine WC.ite rfl (fun h9 => ?_) (fun h9 => ?_)
            · -- then
              have hst : ∀ st, stepS k nm b.xs n p st = offS p st := fun st => by unfold stepS; rw [if_neg h1, if_neg h3, if_neg h4, if_neg h5, if_neg h8, if_pos h9]
              rw [hst, hst]
              refine WC.seq <| WC.region <| sv (vmP rfl) <| sv (vfldp fl48f4 rfl) <| sv (vldc pl3 rfl) <| clx (by repeat' (first | with_reducible exact Sb.all | exact Sb.nil | (apply Sb.cons; focus (first | ((repeat (first | with_reducible exact Tk.here | with_reducible apply Tk.there)); done) | ((repeat (first | exact Tk.here | apply Tk.there)); done))) | apply Sb.drop)) (disk_off_at) ct12 rfl fun r40 hr40 => ?_
              refine WL.nil <| WX.thenN <| WC.region <| sv (vmP rfl) <| sv (vfldp fl48f4 rfl) <| sv (vldc pl3 rfl) <| clx (by repeat' (first | with_reducible exact Sb.all | exact Sb.nil | (apply Sb.cons; focus (first | ((repeat (first | with_reducible exact Tk.here | with_reducible apply Tk.there)); done) | ((repeat (first | exact Tk.here | apply Tk.there)); done))) | apply Sb.drop)) (ref_off) ct37 rfl fun r42 hr42 => ?_
              exact WL.nil <| WX.blockN <| WX.thenN <| WC.seq <| WC.region <| sv (vaB rfl) <| WL.nil <| WX.thenN <| WC.ret <| WX.ret1 rfl (true) (trivial) rfl (fun w h => pd_rd2 (Sb.own (by repeat' (first | with_reducible exact Sb.all | exact Sb.nil | (apply Sb.cons; focus (first | ((repeat (first | with_reducible exact Tk.here | with_reducible apply Tk.there)); done) | ((repeat (first | exact Tk.here | apply Tk.there)); done))) | apply Sb.drop)) h))
            · -- else
              refine WC.seq <| WC.region <| sv (veq rfl rfl) <| sv (vaB rfl) <| WL.nil <| WX.thenN <| ?_
              refine WC.ite rfl (fun h10 => ?_) (fun h10 => ?_)
              · -- then
                have hst : ∀ st, stepS k nm b.xs n p st = { st with off := false } := fun st => by unfold stepS; rw [if_neg h1, if_neg h3, if_neg h4, if_neg h5, if_neg h8, if_neg h9, if_pos h10]
                rw [hst, hst]
                refine WC.ex (B := fun x : Option Addr × Nat × List RF => cel r (rcells x.1 x.2.2.length x.2.1 sr) 45 :: row x.1 x.2.1 3 51 (fcells x.2.2) :: rows 5 (x.2.2.map (·.b)) :: pdisk d st :: cel b1 (ocel k nm b n p) 48 :: A) (fun w h => rdisk_open (Sb.own (by repeat' (first | with_reducible exact Sb.all | exact Sb.nil | (apply Sb.cons; focus (first | ((repeat (first | with_reducible exact Tk.here | with_reducible apply Tk.there)); done) | ((repeat (first | exact Tk.here | apply Tk.there)); done))) | apply Sb.drop)) h)) ?_
                rintro ⟨base, c, l⟩ ⟨hl, hc⟩
                dsimp only at hl hc ⊢
                refine WC.seq <| WC.region <| sv (vmP rfl) <| clx (by repeat' (first | with_reducible exact Sb.all | exact Sb.nil | (apply Sb.cons; focus (first | ((repeat (first | with_reducible exact Tk.here | with_reducible apply Tk.there)); done) | ((repeat (first | exact Tk.here | apply Tk.there)); done))) | apply Sb.drop)) (disk_on) ct14 rfl fun r43 hr43 => ?_
                exact WL.nil <| WX.thenN <| WC.region <| sv (vmP rfl) <| sv (vnil rfl) <| sv (vfldp fl45f1 rfl) <| stp (v := .bool _) pl4 sz4 rfl rfl rfl <| WL.nil <| WX.blockN <| WX.thenN <| WC.seq <| WC.region <| sv (vaB rfl) <| WL.nil <| WX.thenN <| WC.ret <| WX.ret1 rfl (true) (trivial) rfl (fun w h => (rdisk_mk (st := { sr with off := false }) (hl.same rfl hl.fuse) ⟨hc.1, by omega⟩ (Sb.own (by repeat' (first | with_reducible exact Sb.all | exact Sb.nil | (apply Sb.cons; focus (first | ((repeat (first | with_reducible exact Tk.here | with_reducible apply Tk.there)); done) | ((repeat (first | exact Tk.here | apply Tk.there)); done))) | apply Sb.drop)) h)).pk1)
              · -- else
                refine WC.seq <| WC.region <| sv (veq rfl rfl) <| sv (vaB rfl) <| WL.nil <| WX.thenN <| ?_
                refine WC.ite rfl (fun h11 => ?_) (fun h11 => ?_)
                · -- then
                  have hst : ∀ st, stepS k nm b.xs n p st = st := fun st => by unfold stepS; rw [if_neg h1, if_neg h3, if_neg h4, if_neg h5, if_neg h8, if_neg h9, if_neg h10]
                  rw [hst, hst]
                  refine WC.seq <| WC.region <| sv (vmP rfl) <| clx (by repeat' (first | with_reducible exact Sb.all | exact Sb.nil | (apply Sb.cons; focus (first | ((repeat (first | with_reducible exact Tk.here | with_reducible apply Tk.there)); done) | ((repeat (first | exact Tk.here | apply Tk.there)); done))) | apply Sb.drop)) (disk_names hNm (by omega)) ct17 rfl fun r45 hr45 => ?_
                  refine sv (vaS rfl) <| WL.nil <| WX.thenN <| WC.seq <| WC.region <| sv (vmP rfl) <| clx (by repeat' (first | with_reducible exact Sb.all | exact Sb.nil | (apply Sb.cons; focus (first | ((repeat (first | with_reducible exact Tk.here | with_reducible apply Tk.there)); done) | ((repeat (first | exact Tk.here | apply Tk.there)); done))) | apply Sb.drop)) (ref_names (by omega)) ct38 rfl fun r46 hr46 => ?_
                  obtain ⟨na, ca, la⟩ := r45
                  obtain ⟨nb, cb, lb⟩ := r46
                  dsimp only at hr45 hr46 ⊢
                  have hlf := (hr45.1.few hNm).1
                  refine sv (vaS rfl) <| WL.nil <| WX.thenN <| WC.seq <| WC.seq <| WC.region <| sv (vmS rfl) <| sv (vlen Try.underlying36 rfl) <| sv (vmS rfl) <| sv (vlen Try.underlying36 rfl) <| sv (vne rfl rfl) <| WL.nil <| WX.thenN <| ?_
                  refine WC.ite rfl (fun h12 => ?_) (fun h12 => ?_)
                  · -- then
                    exact WC.seq <| WC.region <| sv (vaB rfl) <| WL.nil <| WX.thenN <| WC.ret <| WX.thenR <| WX.blockR <| WX.thenR <| WX.ret1 rfl (false) (trivial) rfl (fun w h => pd_rd2 (Sb.own (by repeat' (first | with_reducible exact Sb.all | exact Sb.nil | (apply Sb.cons; focus (first | ((repeat (first | with_reducible exact Tk.here | with_reducible apply Tk.there)); done) | ((repeat (first | exact Tk.here | apply Tk.there)); done))) | apply Sb.drop)) h))
                  · -- else
                    have hll : la.length = lb.length := by omega
                    refine WC.skip <| WX.thenN <| WC.seq <| WC.region <| sv (vaI rfl) <| WL.nil <| WX.thenN <| WC.block <| ?_
                    refine WC.loop (ι := Nat × List ByteArray) (fun i => [(17, .int .i64 i.1)]) [(15, .slice _ _ _), (16, .slice _ _ _)] (fun i => row na ca 1 9 (strs i.2) :: row nb cb 1 9 (strs lb) :: pdisk d st :: rdisk r N sr :: A) (fun i => i.1 ≤ la.length ∧ i.2.length = la.length) (fun i => la.length - i.1) ((0, la)) (⟨Nat.zero_le _, rfl⟩) ⟨rfl, trivial⟩ ⟨rfl, rfl, trivial⟩ (fun _ h => Sb.own (by repeat' (first | with_reducible exact Sb.all | exact Sb.nil | (apply Sb.cons; focus (first | ((repeat (first | with_reducible exact Tk.here | with_reducible apply Tk.there)); done) | ((repeat (first | exact Tk.here | apply Tk.there)); done))) | apply Sb.drop)) h) ?_
                    rintro ⟨i, l⟩ ⟨hi1, hi2⟩ ρh
                    dsimp only at hi1 hi2 ⊢
                    refine WC.seq <| WC.seq <| WC.region <| sv (vmI rfl) <| sv (vmS rfl) <| sv (vlen Try.underlying36 rfl) <| sv (vlt rfl rfl) <| WL.nil <| WX.thenN <| ?_
                    refine WC.ite rfl (fun h13 => ?_) (fun h13 => ?_)
                    · -- then
                      have hil : i < la.length := by omega
                      have hil2 : i < lb.length := by omega
                      have hil3 : i < l.length := by omega
                      have hs1 : (strs lb)[((i : Int)).toNat]? = some (.string lb[i]) := by rw [Int.toNat_natCast]; exact strs_at hil2
                      have hs2 : (strs l)[((i : Int)).toNat]? = some (.string l[i]) := by rw [Int.toNat_natCast]; exact strs_at hil3
                      refine WC.skip <| WX.thenN <| WC.seq <| WC.block <| WC.seq <| WC.seq <| WC.draws rfl (by kernel_rfl) <| qv (vmS rfl) <| qv (vmI rfl) <| qv (vix1 Try.underlying36 sz9 rfl rfl (by omega) (by omega) (RdC.of_row (c := ca) (s := 1) (e := 9) (vs := strs l) (by simp)) (by rw [strs_length]; omega)) <| qv (vldo pl9 rfl (RdC.of_row (c := ca) (s := 1) (e := 9) (vs := strs l) (by simp)) hs2) <| qv (vmS rfl) <| qv (vmI rfl) <| qv (vix1 Try.underlying36 sz9 rfl rfl (by omega) (by omega) (RdC.of_row (c := cb) (s := 1) (e := 9) (vs := strs lb) (by simp)) (by rw [strs_length]; omega)) <| qv (vldo pl9 rfl (RdC.of_row (c := cb) (s := 1) (e := 9) (vs := strs lb) (by simp)) hs1) <| qv (vnes rfl rfl) <| WQ.nil <| WX.thenN <| ?_
                      refine WC.ite rfl (fun h14 => ?_) (fun h14 => ?_)
                      · -- then
                        exact WC.seq <| WC.region <| sv (vaB rfl) <| WL.nil <| WX.thenN <| WC.ret <| WX.thenR <| WX.blockR <| WX.thenR <| WX.thenR <| WX.blockR <| WX.blockR <| WX.thenR <| WX.ret1 rfl (false) (trivial) rfl (fun w h => pd_rd2 (Sb.own (by repeat' (first | with_reducible exact Sb.all | exact Sb.nil | (apply Sb.cons; focus (first | ((repeat (first | with_reducible exact Tk.here | with_reducible apply Tk.there)); done) | ((repeat (first | exact Tk.here | apply Tk.there)); done))) | apply Sb.drop)) h))
                      · -- else
                        exact WC.skip <| WX.thenN <| WC.region <| sv (vmS rfl) <| sv (vmI rfl) <| sv (vix1 Try.underlying36 sz9 rfl rfl (by omega) (by omega) (RdC.of_row (c := ca) (s := 1) (e := 9) (vs := strs l) (by simp)) (by rw [strs_length]; omega)) <| strp (v := .string _) pl9 sz9 rfl rfl rfl (by rw [strs_length]; omega) <| WL.nil <| WX.blockN <| WX.thenN <| WC.region <| sv (vmI rfl) <| sv (vadd rfl rfl (by omega)) <| sv (vaI rfl) <| WL.nil <| WX.again ((i + 1, l.set i ⟨#[103, 111, 110, 101]⟩)) (⟨by omega, by rw [List.length_set]; exact hi2⟩) (by omega) ⟨rfl, trivial⟩ ⟨rfl, rfl, trivial⟩ (fun w h => by rw [← strs_set]; exact Sb.own (by repeat' (first | with_reducible exact Sb.all | exact Sb.nil | (apply Sb.cons; focus (first | ((repeat (first | with_reducible exact Tk.here | with_reducible apply Tk.there)); done) | ((repeat (first | exact Tk.here | apply Tk.there)); done))) | apply Sb.drop)) h)
                    · -- else
                      exact WC.exit <| WX.thenE <| WX.thenE <| WX.blockH <| WX.blockN <| WX.thenN <| WC.seq <| WC.region <| sv (vaB rfl) <| WL.nil <| WX.thenN <| WC.ret <| WX.ret1 rfl (true) (trivial) rfl (fun w h => pd_rd2 (Sb.own (by repeat' (first | with_reducible exact Sb.all | exact Sb.nil | (apply Sb.cons; focus (first | ((repeat (first | with_reducible exact Tk.here | with_reducible apply Tk.there)); done) | ((repeat (first | exact Tk.here | apply Tk.there)); done))) | apply Sb.drop)) h))
                · -- else
                  have hst : ∀ st, stepS k nm b.xs n p st = st := fun st => by unfold stepS; rw [if_neg h1, if_neg h3, if_neg h4, if_neg h5, if_neg h8, if_neg h9, if_neg h10]
                  rw [hst, hst]
                  exact WC.skip <| WX.blockN <| WX.thenN <| WC.seq <| WC.region <| sv (vaB rfl) <| WL.nil <| WX.thenN <| WC.ret <| WX.ret1 rfl (true) (trivial) rfl (fun w h => pd_rd2 (Sb.own (by repeat' (first | with_reducible exact Sb.all | exact Sb.nil | (apply Sb.cons; focus (first | ((repeat (first | with_reducible exact Tk.here | with_reducible apply Tk.there)); done) | ((repeat (first | exact Tk.here | apply Tk.there)); done))) | apply Sb.drop)) h))
end Go.Proofs.Ytijbgeboaakmmaa
