/-
  Layer 2: what is done to a file is nothing to another one.
-/
import Derived.Test.YtijbgeboaakmmaaDiskStepTwo
set_option linter.unusedVariables false
set_option linter.unusedSimpArgs false
set_option maxRecDepth 4000
namespace Go.Proofs.Ytijbgeboaakmmaa
open Go.Sl Go.RowKit

theorem nd {P : Prop} [Decidable P] (h : (!decide P) = true) : ¬ P := by
  intro hp; rw [decide_eq_true hp] at h; cases h
theorem nd' {P : Prop} [Decidable P] (h : (!decide P) = false) : P := by
  by_cases hp : P
  · exact hp
  · rw [decide_eq_false hp] at h; cases h
abbrev nmK : ByteArray := ⟨#[107, 101, 112, 116]⟩
def kp (b : List UInt8) (f : ByteArray → Option (List UInt8 × Nat)) : Prop := f nmK = some (b, b.length)
theorem kp_off {b : List UInt8} {keep : Int} {st : DSt} (h : kp b st.files) : kp b (offS keep st).files := by
  unfold kp offS at *
  split
  · exact h
  · dsimp only
    rw [h]
    have hk : keptOf keep (b, b.length) = b.length := by unfold keptOf; dsimp only; omega
    simp only [Option.map_some, offV, hk, List.take_length]
theorem kp_put {b : List UInt8} {nm : ByteArray} {v : List UInt8 × Nat} {f : ByteArray → Option (List UInt8 × Nat)} (hn : nm ≠ nmK) (h : kp b f) : kp b (putV nm v f) := by
  unfold kp putV at *
  rw [if_neg (fun e => hn e.symm)]
  exact h
theorem kp_deed {b : List UInt8} {st : DSt} {dof late : (ByteArray → Option (List UInt8 × Nat)) → ByteArray → Option (List UInt8 × Nat)} (h1 : kp b (dof st.files)) (h2 : kp b (late st.files)) : kp b (deedS dof late st).1.files := by
  unfold deedS
  split
  · exact kp_off (st := { st with deeds := st.deeds + 1, fuse := 0, files := late st.files }) h2
  · exact h1
theorem kp_step {b c : List UInt8} {st : DSt} {k m p : Int} {nm : ByteArray} (hn : nm ≠ nmK) (h : kp b st.files) : kp b (stepS k nm c m p st).files := by
  unfold stepS
  split
  · unfold appendS
    split
    · exact h
    · split
      · exact h
      · split
        · exact h
        · exact kp_deed (kp_put hn h) (kp_put hn h)
  · split
    · unfold syncS
      split
      · exact h
      · split
        · exact h
        · exact kp_deed (kp_put hn h) h
    · split
      · unfold cutS
        split
        · exact h
        · split
          · exact h
          · split
            · exact h
            · exact kp_deed (kp_put hn h) h
      · split
        · exact h
        · split
          · exact h
          · split
            · exact kp_off h
            · split
              · exact h
              · exact h
def hap (d r n : Nat) (b : List UInt8) : HProp := fun h => ∃ i : DSt × DSt, (Dd (n + 2) i.1 ∧ Dd n i.2 ∧ kp b i.1.files) ∧ star (pdisk d i.1) (rdisk r (n + 2) i.2) h
theorem hap_open {w0 w : World} {d r n : Nat} {b : List UInt8} {A : List HProp} (H : Own w0 (hap d r n b :: A) w) : ∃ i : DSt × DSt, (Dd (n + 2) i.1 ∧ Dd n i.2 ∧ kp b i.1.files) ∧ Own w0 (pdisk d i.1 :: rdisk r (n + 2) i.2 :: A) w := by
  obtain ⟨hb, h, ⟨h1, h2, ⟨st, hs, a⟩, a2, dd, y⟩, hw'⟩ := H
  exact ⟨st, hs, Own.star ⟨hb, h, ⟨h1, h2, a, a2, dd, y⟩, hw'⟩⟩
theorem hap_mk {w0 w : World} {d r n : Nat} {b : List UInt8} {A : List HProp} {st sr : DSt} (h1 : Dd (n + 2) st) (h2 : Dd n sr) (h3 : kp b st.files) (H : Own w0 (pdisk d st :: rdisk r (n + 2) sr :: A) w) : Own w0 (hap d r n b :: A) w := H.intro_star.head fun _ h => ⟨(st, sr), ⟨h1, h2, h3⟩, h⟩
theorem Dd.later {n m : Nat} {st : DSt} (h : Dd n st) (hm : n ≤ m) : Dd m st := ⟨⟨h.deeds.1, by have := h.deeds.2; omega⟩, h.nm.sub hm fun _ hk => hk⟩
theorem One.kp {st : DSt} {b : List UInt8} {n : Int} (h : One st nmK b b.length n) : kp b st.files := h.file
abbrev gO (w : World) (a : AO) : Prop := a.2.1.size ≤ 140737488351232 ∧ a.2.2.2.1 ≤ 9223372036854775807 ∧ Rd w a.2.2.1.base (u8s a.2.2.1.xs)
theorem walk_apart {w0 : World} {A : List HProp} {bb : Option Addr} {bc : Nat} {bs : List UInt8} {o : Sla AO} (hb : Rd w0 bb (u8s bs)) (ho : Rd w0 o.base (o.xs.flatMap cellO)) (hx : ∀ a ∈ o.xs, gO w0 a) :
    Fun Try.prog w0 7 [.slice bb bs.length bc, .slice o.base o.xs.length o.cap] A (Ret w0 (fun _ : Unit => True) (fun _ => .bool true) (fun _ => A)) := by
  have hfl : (o.xs.flatMap cellO).length = o.xs.length * 5 := flat_len (fun _ _ => rfl)
  have hkb : Reads w0 A bb (u8s bs) := ⟨RdC.old hb⟩
  refine Fun.enter Try.func7 rfl Try.ntmps7 rfl ?_
  refine WC.seq <| WC.region <| sv (vaB rfl) <| WL.nil <| WX.thenN <| WC.seq <| ?_
  refine WC.cutS [(18, .bool (decide (¬ (o.xs.length ≤ 300 ∧ ∀ a ∈ o.xs, a.2.2.1.xs.length ≤ 1024) ∨ (1024 : Int) < bs.length)))] [(0, .slice _ _ _), (1, .slice _ _ _)] ⟨rfl, rfl, trivial⟩ ?_ fun ρh => ?_
  · -- law.go:204
    refine WC.region <| sv (vmS rfl) <| clx (by repeat' (first | with_reducible exact Sb.all | exact Sb.nil | (apply Sb.cons; focus (first | ((repeat (first | with_reducible exact Tk.here | with_reducible apply Tk.there)); done) | ((repeat (first | exact Tk.here | apply Tk.there)); done))) | apply Sb.drop)) (law_small ho) ct18 rfl fun r1 hr1 => ?_
    refine svb (vnot rfl) (fun q1 => ?_) (fun q1 => ?_)
    ·
      exact sv (vmB rfl) <| sng rfl <| sng rfl <| sng rfl <| sv (vpkt rfl) <| WL.nil <| WX.mid () trivial ⟨bT (.inl (nd q1)), trivial⟩ ⟨rfl, rfl, trivial⟩ (fun _ h => Sb.own (by repeat' (first | with_reducible exact Sb.all | exact Sb.nil | (apply Sb.cons; focus (first | ((repeat (first | with_reducible exact Tk.here | with_reducible apply Tk.there)); done) | ((repeat (first | exact Tk.here | apply Tk.there)); done))) | apply Sb.drop)) h)
    ·
      exact sv (vmB rfl) <| svg rfl (vmS rfl) <| svg rfl (vlen Try.underlying27 rfl) <| svg rfl (vgt rfl rfl) <| sv (vpkf rfl) <| WL.nil <| WX.mid () trivial ⟨bI ⟨fun h => .inr h, fun h => h.elim (fun h => absurd (nd' q1) h) id⟩, trivial⟩ ⟨rfl, rfl, trivial⟩ (fun _ h => Sb.own (by repeat' (first | with_reducible exact Sb.all | exact Sb.nil | (apply Sb.cons; focus (first | ((repeat (first | with_reducible exact Tk.here | with_reducible apply Tk.there)); done) | ((repeat (first | exact Tk.here | apply Tk.there)); done))) | apply Sb.drop)) h)
  refine WC.ite rfl (fun h1 => ?_) (fun h1 => ?_)
  · -- then
    exact WC.seq <| WC.region <| sv (vaB rfl) <| WL.nil <| WX.thenN <| WC.ret <| WX.thenR <| WX.ret1 rfl (()) (trivial) rfl (fun _ h => Sb.own (by repeat' (first | with_reducible exact Sb.all | exact Sb.nil | (apply Sb.cons; focus (first | ((repeat (first | with_reducible exact Tk.here | with_reducible apply Tk.there)); done) | ((repeat (first | exact Tk.here | apply Tk.there)); done))) | apply Sb.drop)) h)
  · -- else
    have hsm : o.xs.length ≤ 300 ∧ ∀ a ∈ o.xs, a.2.2.1.xs.length ≤ 1024 := Decidable.not_not.1 fun h => h1 (.inl h)
    have hbl : bs.length ≤ 1024 := by
      rcases Nat.lt_or_ge 1024 bs.length with h | h
      · exact absurd (.inr (by omega)) h1
      · exact h
    obtain ⟨s1, e1, o1⟩ := One.append0 (st := newD) (nm := nmK) (all := []) (safe := 0) (n := 0) (b := bs) rfl rfl rfl rfl (by decide +kernel) (by simp; omega)
    obtain ⟨s2, e2, o2⟩ := o1.sync
    rw [List.nil_append] at o1 o2
    have hd1 := o1.deeds
    have hnK : okName nmK := by decide +kernel
    have hdd2 : Dd 2 s2 := by
      have h0 := (Dd.new.step (k := 0) (m := 0) (p := 0) (nm := nmK) (b := bs)).step (k := 1) (m := 0) (p := 0) (nm := nmK) (b := bs)
      unfold stepS at h0
      rw [if_neg (by decide), if_pos rfl, if_pos rfl, e1] at h0
      dsimp only at h0
      rw [e2] at h0
      exact h0
    refine WC.skip <| WX.thenN <| WC.seq <| WC.region <| clx (by repeat' (first | with_reducible exact Sb.all | exact Sb.nil | (apply Sb.cons; focus (first | ((repeat (first | with_reducible exact Tk.here | with_reducible apply Tk.there)); done) | ((repeat (first | exact Tk.here | apply Tk.there)); done))) | apply Sb.drop)) (disk_new) ct9 rfl fun r2 hr2 => ?_
    refine sv (vaP rfl) <| WL.nil <| WX.thenN <| WC.seq <| ?_
    refine WC.cut0 [(32, .bool false)] [(0, .slice _ _ _), (1, .slice _ _ _), (5, .pointer _)] (pdisk r2 s2 :: A) ⟨rfl, rfl, rfl, trivial⟩ ?_ fun ρh => ?_
    · -- law.go:208
      refine WC.region <| sv (vmP rfl) <| sv (vpeqF Try.underlying25 rfl rfl) <| sv (vmB rfl) <| svg rfl (vmP rfl) <| svg rfl (vmS rfl) <| gy rfl <| clx (by repeat' (first | with_reducible exact Sb.all | exact Sb.nil | (apply Sb.cons; focus (first | ((repeat (first | with_reducible exact Tk.here | with_reducible apply Tk.there)); done) | ((repeat (first | exact Tk.here | apply Tk.there)); done))) | apply Sb.drop)) (disk_append_at (nm := nmK) (b := bs) (by decide +kernel) (by decide) (by omega) rfl e1) ct10 rfl fun r4 hr4 => ?_
      refine svg rfl (vF (vne rfl rfl) (by omega)) <| sv (vpkf rfl) <| sv (vmB rfl) <| svg rfl (vmP rfl) <| gy rfl <| clx (by repeat' (first | with_reducible exact Sb.all | exact Sb.nil | (apply Sb.cons; focus (first | ((repeat (first | with_reducible exact Tk.here | with_reducible apply Tk.there)); done) | ((repeat (first | exact Tk.here | apply Tk.there)); done))) | apply Sb.drop)) (disk_sync_at (nm := nmK) (by omega) e2) ct11 rfl fun r5 hr5 => ?_
      exact svg rfl (vF (vne rfl rfl) (by omega)) <| sv (vpkf rfl) <| WL.nil <| WX.mid () trivial ⟨rfl, trivial⟩ ⟨rfl, rfl, rfl, trivial⟩ (fun _ h => Sb.own (by repeat' (first | with_reducible exact Sb.all | exact Sb.nil | (apply Sb.cons; focus (first | ((repeat (first | with_reducible exact Tk.here | with_reducible apply Tk.there)); done) | ((repeat (first | exact Tk.here | apply Tk.there)); done))) | apply Sb.drop)) h)
    refine WC.ff rfl ?_
    refine WC.skip <| WX.thenN <| WC.seq <| WC.region <| sv (vbd (ps := []) (cs := [_, _, _, _, _]) bt45 zt45 rfl (by rfl)) <| bxc (v := .agg _) (cs := [.slice _ _ _, .bool _, .int _ _, .int _ _, .int _ _]) rfl rfl fun b7 => sv (vaP rfl) <| WL.nil <| WX.thenN <| WC.seq <| WC.seq <| WC.region <| sv (vaI rfl) <| WL.nil <| WX.thenN <| WC.block <| ?_
    refine WC.loop (ι := Nat) (fun i => [(7, .int .i64 i)]) [(0, .slice _ _ _), (1, .slice _ _ _), (5, .pointer _), (6, .pointer _)] (fun i => hap r2 b7 i bs :: A) (fun i => i ≤ o.xs.length) (fun i => o.xs.length - i) (0) (by omega) ⟨rfl, trivial⟩ ⟨rfl, rfl, rfl, rfl, trivial⟩ (fun w h => hap_mk hdd2 Dd.new o2.kp ((rdisk_mk (base := none) (c := 0) (l := []) RRep.new ⟨Nat.le_refl _, Nat.zero_le _⟩ (((Sb.own (by repeat' (first | with_reducible exact Sb.all | exact Sb.nil | (apply Sb.cons; focus (first | ((repeat (first | with_reducible exact Tk.here | with_reducible apply Tk.there)); done) | ((repeat (first | exact Tk.here | apply Tk.there)); done))) | apply Sb.drop)) h).intro_emp).pk1.intro_row_nil.pk1)).pk1)) ?_
    intro i hi ρh
    refine WC.seq <| WC.seq <| WC.region <| sv (vmI rfl) <| sv (vmS rfl) <| sv (vlen Try.underlying40 rfl) <| sv (vlt rfl rfl) <| WL.nil <| WX.thenN <| ?_
    refine WC.ite rfl (fun h3 => ?_) (fun h3 => ?_)
    · -- then
      have hil : i < o.xs.length := by omega
      obtain ⟨a, ha⟩ : ∃ a, o.xs[i]? = some a := ⟨_, List.getElem?_eq_getElem hil⟩
      have hag : gO w0 a := hx a (List.mem_of_getElem? ha)
      have hal := hsm.2 a (List.mem_of_getElem? ha)
      have hpos : 0 < (o.xs.flatMap cellO).length := by omega
      have hac : ((o.xs.flatMap cellO).drop (((i : Int)).toNat * 5)).take 5 = cellO a := by rw [Int.toNat_natCast, flat_take (f := cellO) (s := 5) (fun _ _ => rfl) hil, (List.getElem?_eq_some_iff.1 ha).2]
      refine WC.ex (B := fun i' : DSt × DSt => pdisk r2 i'.1 :: rdisk b7 (i + 2) i'.2 :: A) (fun w h => hap_open h) ?_
      rintro ⟨st, sr⟩ ⟨hst, hsr, hkp⟩
      dsimp only at hst hsr hkp ⊢
      have hsd := hst.deeds
      have hsd2 := hsr.deeds
      refine WC.skip <| WX.thenN <| WC.seq <| WC.block <| WC.seq <| WC.region <| sv (vmS rfl) <| sv (vmI rfl) <| sv (vix Try.underlying40 sz48 rfl rfl (by omega) (by omega) (RdC.old ho) hpos) <| sv (vlda ag48 sz48 rfl (RdC.old ho) hac rfl (by decide)) <| alz (cs := [.int .i64 0, .string ByteArray.empty, .slice none 0 0, .int .i64 0, .int .i64 0]) zt48 (by rfl) fun b10 => stAp sz48 rfl rfl rfl (by intro v hv; simp only [List.mem_cons, List.not_mem_nil, or_false] at hv; rcases hv with rfl | rfl | rfl | rfl | rfl <;> rfl) rfl <| WL.nil <| WX.thenN <| WC.seq <| WC.seq <| WC.region <| sv (vfldp fl48f1 rfl) <| sv (vldc pl9 rfl) <| sv (veqs rfl rfl) <| WL.nil <| WX.thenN <| ?_
      refine WC.ite rfl (fun h4 => ?_) (fun h4 => ?_)
      · -- then
        exact WC.exit <| WX.thenE <| WX.blockH <| WX.thenN <| WC.region <| sv (vmI rfl) <| sv (vadd rfl rfl (by omega)) <| sv (vaI rfl) <| WL.nil <| WX.again (i + 1) (by omega) (by omega) ⟨rfl, trivial⟩ ⟨rfl, rfl, rfl, rfl, trivial⟩ (fun w h => hap_mk (hst.later (by omega)) (hsr.later (by omega)) hkp ((rdisk_mono (N := i + 2) (by omega) (Sb.own (by repeat' (first | with_reducible exact Sb.all | exact Sb.nil | (apply Sb.cons; focus (first | ((repeat (first | with_reducible exact Tk.here | with_reducible apply Tk.there)); done) | ((repeat (first | exact Tk.here | apply Tk.there)); done))) | apply Sb.drop)) h)).pk1))
      · -- else
        refine WC.skip <| WX.thenN <| WC.region <| sv (vmP rfl) <| sv (vmP rfl) <| sv (vldac ag48 sz48 rfl rfl (by decide)) <| clx (by repeat' (first | with_reducible exact Sb.all | exact Sb.nil | (apply Sb.cons; focus (first | ((repeat (first | with_reducible exact Tk.here | with_reducible apply Tk.there)); done) | ((repeat (first | exact Tk.here | apply Tk.there)); done))) | apply Sb.drop)) (law_step2 (k := a.1) (b := a.2.2.1) (by omega) hag.1 (by omega) (by omega) hst.nm (RdC.old hag.2.2) (by omega) hag.2.1) ct19 rfl fun r14 hr14 => ?_
        exact WL.nil <| WX.blockN <| WX.thenN <| WC.region <| sv (vmI rfl) <| sv (vadd rfl rfl (by omega)) <| sv (vaI rfl) <| WL.nil <| WX.again (i + 1) (by omega) (by omega) ⟨rfl, trivial⟩ ⟨rfl, rfl, rfl, rfl, trivial⟩ (fun w h => hap_mk (hst.step (k := a.1) (m := a.2.2.2.1) (p := a.2.2.2.2.1) (nm := a.2.1) (b := a.2.2.1.xs)) hsr.step (kp_step h4 hkp) (Sb.own (by repeat' (first | with_reducible exact Sb.all | exact Sb.nil | (apply Sb.cons; focus (first | ((repeat (first | with_reducible exact Tk.here | with_reducible apply Tk.there)); done) | ((repeat (first | exact Tk.here | apply Tk.there)); done))) | apply Sb.drop)) h))
    · -- else
      refine WC.ex (B := fun i' : DSt × DSt => pdisk r2 i'.1 :: rdisk b7 (i + 2) i'.2 :: A) (fun w h => hap_open h) ?_
      rintro ⟨st, sr⟩ ⟨hst, hsr, hkp⟩
      dsimp only at hst hsr hkp ⊢
      have hrd : readS nmK { st with off := false } = (bs, 0) := by
        have h9 : st.files nmK = some (bs, bs.length) := hkp
        unfold readS
        rw [if_neg (by dsimp only; decide)]
        dsimp only
        rw [h9]
      refine WC.exit <| WX.thenE <| WX.thenE <| WX.blockH <| WX.thenN <| WC.seq <| WC.region <| sv (vmP rfl) <| clx (by repeat' (first | with_reducible exact Sb.all | exact Sb.nil | (apply Sb.cons; focus (first | ((repeat (first | with_reducible exact Tk.here | with_reducible apply Tk.there)); done) | ((repeat (first | exact Tk.here | apply Tk.there)); done))) | apply Sb.drop)) (disk_on) ct14 rfl fun r16 hr16 => ?_
      refine WL.nil <| WX.thenN <| WC.seq <| WC.region <| sv (vmP rfl) <| clx (by repeat' (first | with_reducible exact Sb.all | exact Sb.nil | (apply Sb.cons; focus (first | ((repeat (first | with_reducible exact Tk.here | with_reducible apply Tk.there)); done) | ((repeat (first | exact Tk.here | apply Tk.there)); done))) | apply Sb.drop)) (disk_read_at (nm := nmK) hrd) ct13 rfl fun r17 hr17 => ?_
      refine sv vmv <| sv (vex rfl rfl) <| sv (vex rfl rfl) <| sv (vaS rfl) <| sv (vaI rfl) <| WL.nil <| WX.thenN <| ?_
      refine WC.cut0 [(4, .bool true)] [] (A) trivial ?_ fun ρh => ?_
      · -- law.go:221
        refine WC.region <| clx (by repeat' (first | with_reducible exact Sb.all | exact Sb.nil | (apply Sb.cons; focus (first | ((repeat (first | with_reducible exact Tk.here | with_reducible apply Tk.there)); done) | ((repeat (first | exact Tk.here | apply Tk.there)); done))) | apply Sb.drop)) (law2_awake) ct15 rfl fun r18 hr18 => ?_
        exact sv (vmB rfl) <| svg rfl (vmI rfl) <| svg rfl (vT (veq rfl rfl) (by omega)) <| sv (vpkt rfl) <| sv (vmB rfl) <| svg rfl (vmS rfl) <| svg rfl (vstr Try.underlying27 Try.underlying5 Try.underlying9 rfl reads (by simp)) <| svg rfl (vmS rfl) <| svg rfl (vstr Try.underlying27 Try.underlying5 Try.underlying9 rfl reads (by simp)) <| svg rfl (vT (veqs rfl rfl) (by rfl)) <| sv (vpkt rfl) <| sv (vaB rfl) <| WL.nil <| WX.mid () trivial ⟨rfl, trivial⟩ trivial (fun _ h => Sb.own (by repeat' (first | with_reducible exact Sb.all | exact Sb.nil | (apply Sb.cons; focus (first | ((repeat (first | with_reducible exact Tk.here | with_reducible apply Tk.there)); done) | ((repeat (first | exact Tk.here | apply Tk.there)); done))) | apply Sb.drop)) h)
      exact WC.ret <| WX.ret1 rfl (()) (trivial) rfl (fun _ h => Sb.own (by repeat' (first | with_reducible exact Sb.all | exact Sb.nil | (apply Sb.cons; focus (first | ((repeat (first | with_reducible exact Tk.here | with_reducible apply Tk.there)); done) | ((repeat (first | exact Tk.here | apply Tk.there)); done))) | apply Sb.drop)) h)
end Go.Proofs.Ytijbgeboaakmmaa
