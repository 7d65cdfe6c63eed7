/-
  Layer 19: all that is said of nodes, walked.
-/
import Derived.Test.YtekoilhjlofncaaRaftNetF
set_option linter.unusedVariables false
set_option linter.unusedSimpArgs false
set_option maxRecDepth 4000
namespace Go.Proofs.Ytekoilhjlofncaa
open Go.Sl Go.RowKit Go.Raft

theorem hnodes_same {w0 w : World} {l : List (Nat × Rn)} {j : Nat} {q : Nat × Rn} {A : List HProp} (hq : l[j]? = some q) (H : Own w0 (hnode q.1 q.2 :: hnodes (l.eraseIdx j) :: A) w) : Own w0 (hnodes l :: A) w := by
  have h := hnodes_in (y := q.2) hq H
  have e : l.set j (q.1, q.2) = l := by
    obtain ⟨h1, h2⟩ := List.getElem?_eq_some_iff.1 hq
    rw [show (q.1, q.2) = l[j] from h2.symm]
    exact List.set_getElem_self h1
  rwa [e] at h
theorem stable_in {w0 : World} {A : List HProp} {l : List (Nat × Rn)} {j : Nat} {q : Nat × Rn} (hq : l[j]? = some q) (hx : RInv q.2) : Fun Try.prog w0 23 [.pointer (some ⟨q.1, 0, none⟩)] (hnodes l :: A)
    (Ret w0 (fun i : Option Addr × Nat => q.2.log.length ≤ i.2) (fun i => .agg [.int .i64 q.2.term, .int .i64 q.2.vote, .slice i.1 q.2.log.length i.2].toArray) (fun i => row i.1 i.2 2 39 (cvs q.2.log) :: hnodes l :: A)) :=
  ((raft_stable (A := hnodes (l.eraseIdx j) :: A) hx).perm fun w h => hnodes_out hq h).mono fun e w ⟨i, hi, he, hO⟩ => ⟨i, hi, he, (hnodes_same hq (hO.ix [1, 2, 0])).pk1⟩
theorem commit_in {w0 : World} {A : List HProp} {l : List (Nat × Rn)} {j : Nat} {q : Nat × Rn} (hq : l[j]? = some q) : Fun Try.prog w0 24 [.pointer (some ⟨q.1, 0, none⟩)] (hnodes l :: A) (Ret w0 (fun _ : Unit => True) (fun _ => .int .i64 q.2.commit) (fun _ => hnodes l :: A)) :=
  ((raft_commit (A := hnodes (l.eraseIdx j) :: A) (x := q.2)).perm fun w h => hnodes_out hq h).mono fun e w ⟨i, hi, he, hO⟩ => ⟨i, hi, he, hnodes_same hq hO⟩
theorem role_in {w0 : World} {A : List HProp} {l : List (Nat × Rn)} {j : Nat} {q : Nat × Rn} (hq : l[j]? = some q) : Fun Try.prog w0 25 [.pointer (some ⟨q.1, 0, none⟩)] (hnodes l :: A) (Ret w0 (fun _ : Unit => True) (fun _ => .int .i64 q.2.role) (fun _ => hnodes l :: A)) :=
  ((raft_role (A := hnodes (l.eraseIdx j) :: A) (x := q.2)).perm fun w h => hnodes_out hq h).mono fun e w ⟨i, hi, he, hO⟩ => ⟨i, hi, he, hnodes_same hq hO⟩
abbrev netL3 (p : Nat) (s : NS) (b : NB) (A : List HProp) : List HProp := cel p (ncel s b) 70 :: row b.lb b.lc 1 32 (nptr (s.nodes.map Prod.fst)) :: hnodes s.nodes :: row b.mb b.mc 9 28 (mvs s.mails) :: mrows s.mails :: row b.gb b.gc 2 95 (ldv s.led) :: row b.db b.dc 2 39 (cvs s.done) :: row b.sb b.sc 1 3 (i64s s.seen) :: A
theorem hnet_mk3 {w0 w : World} {p : Nat} {s : NS} {b : NB} {A : List HProp} (hw : NW s b) (H : Own w0 (netL3 p s b A) w) : Own w0 (hnet p s :: A) w := hnet_mk hw H
def ledN (s : NS) (i : Nat) (x : Rn) : NS := if x.role = 2 then { s with led := s.led ++ [(x.term, (i : Int))] } else s
structure SaR (n : Int) (g : Gh) (s s' : NS) (i : Nat) : Prop where
  le : i ≤ s.nodes.length
  sin : SIn n g s'
  nodes : s'.nodes = s.nodes
  mails : s'.mails = s.mails
  led : s'.led.length ≤ s.led.length + i
  done : s'.done.length ≤ 10000
structure SkI where
  k : Nat
  s : NS
  b : NB
structure SkR (n : Int) (g : Gh) (s2 : NS) (c : Int) (j : SkI) : Prop where
  k : (j.k : Int) ≤ c
  kd : j.k ≤ j.s.done.length
  sin : SIn n g j.s
  nw : NW j.s j.b
  nodes : j.s.nodes = s2.nodes
  mails : j.s.mails = s2.mails
  led : j.s.led = s2.led
  done : j.s.done.length ≤ 10000
theorem net_safe {w0 : World} {R : List HProp} {p : Nat} {s : NS} {n : Int} {g : Gh} (hs : SIn n g s) (hn : s.nodes.length ≤ 5) (hl : s.led.length ≤ 900000) (hd : s.done.length ≤ 10000) :
    Fun Try.prog w0 30 [.pointer (some ⟨p, 0, none⟩)] (hnet p s :: R) (Ret w0 (fun s' : NS => SaR n g s s' s.nodes.length) (fun _ => .bool true) (fun s' => hnet p s' :: R)) := by
  refine Fun.enter Try.func30 rfl Try.ntmps30 rfl ?_
  refine WC.seq <| WC.region <| sv (vaB rfl) <| WL.nil <| WX.thenN <| WC.seq <| WC.seq <| WC.region <| sv (vaI rfl) <| WL.nil <| WX.thenN <| WC.block <| ?_
  refine WC.loop (ι := Nat × NS) (fun i => [(3, .int .i64 i.1)]) [(0, .pointer _)] (fun i => hnet p i.2 :: R) (fun i => SaR n g s i.2 i.1) (fun i => s.nodes.length - i.1) ((0, s)) (⟨Nat.zero_le _, hs, rfl, rfl, Nat.le_refl _, hd⟩) ⟨rfl, trivial⟩ ⟨rfl, trivial⟩ (fun _ h => Sb.own (by repeat' (first | with_reducible exact Sb.all | exact Sb.nil | (apply Sb.cons; focus (first | ((repeat (first | with_reducible exact Tk.here | with_reducible apply Tk.there)); done) | ((repeat (first | exact Tk.here | apply Tk.there)); done))) | apply Sb.drop)) h) ?_
  rintro ⟨i, s1⟩ hsa ρh
  dsimp only at hsa ⊢
  obtain ⟨h_i, h_sin, h_n, h_m, h_l, h_d⟩ := hsa
  have hsl1 : s1.nodes.length = s.nodes.length := by rw [h_n]
  refine WC.ex (B := fun b => netL3 p s1 b R) (fun w h => hnet_open h) ?_
  intro b hb
  dsimp only [netL3]
  have hbl := hb.l
  refine WC.seq <| WC.seq <| WC.region <| sv (vmI rfl) <| sv (vmP rfl) <| sv (vnil rfl) <| sv (vfldpz fl70f0 rfl) <| sv (vldc pl66 rfl) <| sv (vlen Try.underlying66 rfl) <| sv (vlt rfl rfl) <| WL.nil <| WX.thenN <| ?_
  refine WC.ite rfl (fun h1 => ?_) (fun h1 => ?_)
  · -- then
    have hil : i < s1.nodes.length := by omega
    obtain ⟨q, hq⟩ : ∃ q, s1.nodes[i]? = some q := ⟨_, List.getElem?_eq_getElem hil⟩
    have hqn : (nsL s1)[i]? = some q.2 := by unfold nsL; rw [List.getElem?_map, hq]; rfl
    have hx : RInv q.2 := (h_sin.nodes i q.2 hqn).inv
    have hxl := hx.log
    have hxc := hx.commit
    have hln : (nptr (s1.nodes.map Prod.fst)).length = s1.nodes.length := by rw [nptr_length, List.length_map]
    have hnp : (nptr (s1.nodes.map Prod.fst))[((i : Int)).toNat]? = some (.pointer (some ⟨q.1, 0, none⟩)) := nptr_at (by rw [List.getElem?_map, hq]; rfl)
    refine WC.skip <| WX.thenN <| WC.seq <| WC.block <| WC.seq <| WC.region <| sv (vmP rfl) <| sv (vnil rfl) <| sv (vfldpz fl70f0 rfl) <| sv (vldc pl66 rfl) <| sv (vmI rfl) <| sv (vix1 Try.underlying66 sz32 rfl rfl (by omega) (by omega) (RdC.of_row (c := b.lc) (s := 1) (e := 32) (vs := nptr (s1.nodes.map Prod.fst)) (by simp)) (by omega)) <| sv (vldo pl32 rfl (RdC.of_row (c := b.lc) (s := 1) (e := 32) (vs := nptr (s1.nodes.map Prod.fst)) (by simp)) hnp) <| clx (by repeat' (first | with_reducible exact Sb.all | exact Sb.nil | (apply Sb.cons; focus (first | ((repeat (first | with_reducible exact Tk.here | with_reducible apply Tk.there)); done) | ((repeat (first | exact Tk.here | apply Tk.there)); done))) | apply Sb.drop)) (stable_in hq hx) ct23 rfl fun r5 hr5 => ?_
    refine alz (cs := [.int .i64 0, .int .i64 0, .slice none 0 0]) zt24 (by rfl) fun b6 => stAp sz24 rfl rfl rfl (by intro v hv; simp only [List.mem_cons, List.not_mem_nil, or_false] at hv; rcases hv with rfl | rfl | rfl <;> rfl) rfl <| WL.nil <| WX.thenN <| WC.seq <| WC.region <| sv (vmP rfl) <| sv (vnil rfl) <| sv (vfldpz fl70f0 rfl) <| sv (vldc pl66 rfl) <| sv (vmI rfl) <| sv (vix1 Try.underlying66 sz32 rfl rfl (by omega) (by omega) (RdC.of_row (c := b.lc) (s := 1) (e := 32) (vs := nptr (s1.nodes.map Prod.fst)) (by simp)) (by omega)) <| sv (vldo pl32 rfl (RdC.of_row (c := b.lc) (s := 1) (e := 32) (vs := nptr (s1.nodes.map Prod.fst)) (by simp)) hnp) <| clx (by repeat' (first | with_reducible exact Sb.all | exact Sb.nil | (apply Sb.cons; focus (first | ((repeat (first | with_reducible exact Tk.here | with_reducible apply Tk.there)); done) | ((repeat (first | exact Tk.here | apply Tk.there)); done))) | apply Sb.drop)) (commit_in hq) ct24 rfl fun r11 hr11 => ?_
    refine sv (vaI rfl) <| WL.nil <| WX.thenN <| WC.seq <| WC.seq <| WC.region <| sv (vmI rfl) <| sv (vfldp fl24f2 rfl) <| sv (vldc pl22 rfl) <| sv (vlen Try.underlying22 rfl) <| sv (vgt rfl rfl) <| WL.nil <| WX.thenN <| ?_
    refine WC.ite rfl (fun h2 => ?_) (fun h2 => ?_)
    · -- then
      exact absurd h2 (by omega)
    · -- else
      refine WC.skip <| WX.thenN <| WC.seq <| ?_
      refine WC.cut0 [(56, .bool false)] [(0, .pointer _), (3, .int _ _), (4, _), (5, .int _ _)] (hnet p (ledN s1 i q.2) :: row r5.1 r5.2 2 39 (cvs q.2.log) :: cel b6 [.int .i64 q.2.term, .int .i64 q.2.vote, .slice r5.1 q.2.log.length r5.2] 24 :: R) ⟨rfl, rfl, rfl, rfl, trivial⟩ ?_ fun ρh => ?_
      · -- law.go:237
        refine WC.region <| sv (vmP rfl) <| sv (vnil rfl) <| sv (vfldpz fl70f0 rfl) <| sv (vldc pl66 rfl) <| sv (vmI rfl) <| sv (vix1 Try.underlying66 sz32 rfl rfl (by omega) (by omega) (RdC.of_row (c := b.lc) (s := 1) (e := 32) (vs := nptr (s1.nodes.map Prod.fst)) (by simp)) (by omega)) <| sv (vldo pl32 rfl (RdC.of_row (c := b.lc) (s := 1) (e := 32) (vs := nptr (s1.nodes.map Prod.fst)) (by simp)) hnp) <| clx (by repeat' (first | with_reducible exact Sb.all | exact Sb.nil | (apply Sb.cons; focus (first | ((repeat (first | with_reducible exact Tk.here | with_reducible apply Tk.there)); done) | ((repeat (first | exact Tk.here | apply Tk.there)); done))) | apply Sb.drop)) (role_in hq) ct25 rfl fun r16 hr16 => ?_
        refine svs (veq rfl rfl) (fun q1 => ?_) (fun q1 => ?_)
        ·
          refine sv (vmB rfl) <| svg rfl (vmP rfl) <| svg rfl (vfldpz fl24f0 rfl) <| svg rfl (vldc pl3 rfl) <| svg rfl (vmI rfl) <| svg rfl (vfldp fl24f2 rfl) <| svg rfl (vldc pl22 rfl) <| pm (fun _ h => (show Own w0 (hnet p s1 :: row r5.1 r5.2 2 39 (cvs q.2.log) :: cel b6 [.int .i64 q.2.term, .int .i64 q.2.vote, .slice r5.1 q.2.log.length r5.2] 24 :: R) _ from hnet_mk hb (Sb.own (by repeat' (first | with_reducible exact Sb.all | exact Sb.nil | (apply Sb.cons; focus (first | ((repeat (first | with_reducible exact Tk.here | with_reducible apply Tk.there)); done) | ((repeat (first | exact Tk.here | apply Tk.there)); done))) | apply Sb.drop)) h))) <| gy rfl <| clx (by repeat' (first | with_reducible exact Sb.all | exact Sb.nil | (apply Sb.cons; focus (first | ((repeat (first | with_reducible exact Tk.here | with_reducible apply Tk.there)); done) | ((repeat (first | exact Tk.here | apply Tk.there)); done))) | apply Sb.drop)) (net_led (log := q.2.log) (h_sin.led_ok hqn q1) h_sin.len (h_sin.led_done hqn q1) (by omega) (by omega) (by omega)) ct58 rfl fun r19 hr19 => ?_
          exact svg rfl (vnot rfl) <| sv (vpkt rfl) <| WL.nil <| WX.mid () trivial ⟨rfl, trivial⟩ ⟨rfl, rfl, rfl, rfl, trivial⟩ (fun _ h => by unfold ledN; rw [if_pos q1]; exact Sb.own (by repeat' (first | with_reducible exact Sb.all | exact Sb.nil | (apply Sb.cons; focus (first | ((repeat (first | with_reducible exact Tk.here | with_reducible apply Tk.there)); done) | ((repeat (first | exact Tk.here | apply Tk.there)); done))) | apply Sb.drop)) h)
        ·
          exact sv (vmB rfl) <| sng rfl <| sng rfl <| sng rfl <| sng rfl <| sng rfl <| sng rfl <| sng rfl <| sng rfl <| sv (vpkf rfl) <| WL.nil <| WX.mid () trivial ⟨rfl, trivial⟩ ⟨rfl, rfl, rfl, rfl, trivial⟩ (fun _ h => by unfold ledN; rw [if_neg q1]; exact hnet_mk hb (Sb.own (by repeat' (first | with_reducible exact Sb.all | exact Sb.nil | (apply Sb.cons; focus (first | ((repeat (first | with_reducible exact Tk.here | with_reducible apply Tk.there)); done) | ((repeat (first | exact Tk.here | apply Tk.there)); done))) | apply Sb.drop)) h))
      refine WC.ff rfl ?_
      obtain ⟨s2, hs2⟩ : ∃ s2, s2 = ledN s1 i q.2 := ⟨_, rfl⟩
      rw [← hs2]
      have h2n : s2.nodes = s1.nodes := by rw [hs2]; unfold ledN; split <;> rfl
      have h2m : s2.mails = s1.mails := by rw [hs2]; unfold ledN; split <;> rfl
      have h2d : s2.done = s1.done := by rw [hs2]; unfold ledN; split <;> rfl
      have h2l : s2.led.length ≤ s1.led.length + 1 := by rw [hs2]; unfold ledN; split; simp; omega
      have h2s : SIn n g s2 := by rw [hs2]; unfold ledN; split; exact h_sin.led_add hqn (by assumption); exact h_sin
      have h2qn : (nsL s2)[i]? = some q.2 := by unfold nsL; rw [h2n]; exact hqn
      refine WC.ex (B := fun b => netL3 p s2 b (row r5.1 r5.2 2 39 (cvs q.2.log) :: cel b6 [.int .i64 q.2.term, .int .i64 q.2.vote, .slice r5.1 q.2.log.length r5.2] 24 :: R)) (fun w h => hnet_open h) ?_
      intro b2 hb2
      refine WC.skip <| WX.thenN <| WC.seq <| WC.seq <| WC.region <| sv (vaI rfl) <| WL.nil <| WX.thenN <| WC.block <| ?_
      refine WC.loop (ι := SkI) (fun i => [(6, .int .i64 i.k)]) [(0, .pointer _), (3, .int _ _), (4, _), (5, .int _ _)] (fun i => netL3 p i.s i.b (row r5.1 r5.2 2 39 (cvs q.2.log) :: cel b6 [.int .i64 q.2.term, .int .i64 q.2.vote, .slice r5.1 q.2.log.length r5.2] 24 :: R)) (fun i => SkR n g s2 q.2.commit i) (fun i => q.2.commit.toNat - i.k) (⟨0, s2, b2⟩) (⟨hxc.1, Nat.zero_le _, h2s, hb2, rfl, rfl, rfl, by rw [h2d]; exact h_d⟩) ⟨rfl, trivial⟩ ⟨rfl, rfl, rfl, rfl, trivial⟩ (fun w h => h) ?_
      rintro ⟨k, s3, b3⟩ hsk ρh
      dsimp only at hsk ⊢
      obtain ⟨k_k, k_d, k_s, k_w, k_n, k_m, k_l, k_10⟩ := hsk
      dsimp only at k_k k_d k_s k_w k_n k_m k_l k_10
      dsimp only [netL3]
      have hqn3 : (nsL s3)[i]? = some q.2 := by unfold nsL; rw [k_n]; exact h2qn
      have hlk := cvs_length q.2.log
      have hdk := cvs_length s3.done
      refine WC.seq <| WC.seq <| WC.region <| sv (vmI rfl) <| sv (vmI rfl) <| sv (vlt rfl rfl) <| WL.nil <| WX.thenN <| ?_
      refine WC.ite rfl (fun h4 => ?_) (fun h4 => ?_)
      · -- then
        have hkl : k < q.2.log.length := by omega
        obtain ⟨d, hd3⟩ : ∃ d, q.2.log[k]? = some d := ⟨_, List.getElem?_eq_getElem hkl⟩
        have hag : ((cvs q.2.log).drop (((k : Int)).toNat * 2)).take 2 = [.int .i64 d.term, .string d.data] := by rw [Int.toNat_natCast]; exact cvs_take2 hd3
        refine WC.skip <| WX.thenN <| WC.seq <| WC.block <| WC.seq <| WC.seq <| WC.region <| sv (vmI rfl) <| sv (vmP rfl) <| sv (vnil rfl) <| sv (vfldp fl70f3 rfl) <| sv (vldc pl22 rfl) <| sv (vlen Try.underlying22 rfl) <| sv (vlt rfl rfl) <| WL.nil <| WX.thenN <| ?_
        refine WC.ite rfl (fun h5 => ?_) (fun h5 => ?_)
        · -- then
          have hkd : k < s3.done.length := by omega
          have hdd : s3.done[k]? = some d := by rw [at_of_take (k_s.done_eq hqn3 (k := k) (by omega) hkd)]; exact hd3
          have hagd : ((cvs s3.done).drop (((k : Int)).toNat * 2)).take 2 = [.int .i64 d.term, .string d.data] := by rw [Int.toNat_natCast]; exact cvs_take2 hdd
          refine WC.seq <| WC.seq <| WC.draws rfl (by kernel_rfl) <| qv (vmP rfl) <| qv (vnil rfl) <| qv (vfldp fl70f3 rfl) <| qv (vldc pl22 rfl) <| qv (vmI rfl) <| qv (vix Try.underlying22 sz39 rfl rfl (by omega) (by omega) (RdC.of_row (c := b3.dc) (s := 2) (e := 39) (vs := cvs s3.done) (by simp)) (by omega)) <| qv (vlda ag39 sz39 rfl (RdC.of_row (c := b3.dc) (s := 2) (e := 39) (vs := cvs s3.done) (by simp)) hagd rfl (by decide)) <| qv (vfldp fl24f2 rfl) <| qv (vldc pl22 rfl) <| qv (vmI rfl) <| qv (vix Try.underlying22 sz39 rfl rfl (by omega) (by omega) (RdC.of_row (c := r5.2) (s := 2) (e := 39) (vs := cvs q.2.log) (by simp)) (by omega)) <| qv (vlda ag39 sz39 rfl (RdC.of_row (c := r5.2) (s := 2) (e := 39) (vs := cvs q.2.log) (by simp)) hag rfl (by decide)) <| qv (vneF eq39 rfl rfl (by simp [eqV])) <| WQ.nil <| WX.thenN <| ?_
          refine WC.ff rfl ?_
          exact WC.skip <| WX.thenN <| WC.exit <| WX.thenE <| WX.blockH <| WX.thenN <| WC.region <| sv (vmI rfl) <| sv (vadd rfl rfl (by omega)) <| sv (vaI rfl) <| WL.nil <| WX.again (⟨k + 1, s3, b3⟩) (⟨by show ((k + 1 : Nat) : Int) ≤ _; omega, by show k + 1 ≤ s3.done.length; omega, k_s, k_w, k_n, k_m, k_l, k_10⟩) (by show q.2.commit.toNat - (k + 1) < q.2.commit.toNat - k; omega) ⟨rfl, trivial⟩ ⟨rfl, rfl, rfl, rfl, trivial⟩ (fun _ h => Sb.own (by repeat' (first | with_reducible exact Sb.all | exact Sb.nil | (apply Sb.cons; focus (first | ((repeat (first | with_reducible exact Tk.here | with_reducible apply Tk.there)); done) | ((repeat (first | exact Tk.here | apply Tk.there)); done))) | apply Sb.drop)) h)
        · -- else
          have hkd : k = s3.done.length := by omega
          have hsl3 := k_s.len
          have hi64 : (i64s s3.seen).length = s3.seen.length := by simp [i64s]
          refine WC.skip <| WX.thenN <| WC.seq <| WC.plan (.pre [5, 6, 7, 8, 9] (.one [0, 1, 2, 3, 4] 10 (.one [] 11 (.bar [12, 13] 14 (.done []))))) rfl (by kernel_rfl) <| WPl.preC <| dv (fun g => (vfldp fl24f2 rfl)) <| dv (fun g => (vldc pl22 rfl)) <| dv (fun g => (vmI rfl)) <| dv (fun g => (vix Try.underlying22 sz39 rfl rfl (by omega) (by omega) (RdC.of_row (c := r5.2) (s := 2) (e := 39) (vs := cvs q.2.log) (by simp)) (by omega))) <| dv (fun g => (vlda ag39 sz39 rfl (RdC.of_row (c := r5.2) (s := 2) (e := 39) (vs := cvs q.2.log) (by simp)) hag rfl (by decide))) <| WD.nil <| WPl.oneX [row b3.db b3.dc 2 39 (cvs s3.done)] (by repeat' (first | exact Spl.nil | (apply Spl.cons; focus (first | ((repeat (first | with_reducible exact Tk.here | with_reducible apply Tk.there)); done) | ((repeat (first | exact Tk.here | apply Tk.there)); done))))) (fun g => by infer_instance) ?_
          refine dv (fun g => (vmP rfl)) <| dv (fun g => (vmP rfl)) <| dv (fun g => (vnil rfl)) <| dv (fun g => (vfldp fl70f3 rfl)) <| dv (fun g => (vldc pl22 rfl)) <| WD.eff rfl <| bslA (v := .agg _) (cs := [.int .i64 d.term, .string d.data]) Try.underlying22 zt39 rfl rfl rfl (by decide) (by decide) fun b31 => WL.nil <| WX.br <| WPl.oneX [row b3.db b3.dc 2 39 (cvs s3.done)] (by repeat' (first | exact Spl.nil | (apply Spl.cons; focus (first | ((repeat (first | with_reducible exact Tk.here | with_reducible apply Tk.there)); done) | ((repeat (first | exact Tk.here | apply Tk.there)); done))))) (fun g => by infer_instance) ?_
          refine WD.eff rfl <| pm (fun _ h => Sb.own (by repeat' (first | with_reducible exact Sb.all | exact Sb.nil | (apply Sb.cons; focus (first | ((repeat (first | with_reducible exact Tk.here | with_reducible apply Tk.there)); done) | ((repeat (first | exact Tk.here | apply Tk.there)); done))) | apply Sb.drop)) h) <| ap (vs := cvs s3.done) (news := [.int .i64 d.term, .string d.data]) rfl Try.underlying22 zt39 rfl rfl rfl (by omega) (rfl) (by intro v hv; simp only [List.mem_cons, List.not_mem_nil, or_false] at hv; rcases hv with rfl | rfl <;> rfl) ((RdC.of_cel (e := 39) (ws := [.int .i64 d.term, .string d.data]) 0 (by simp) (by simp))) (by simp only [maxLen]; omega) (by omega) fun base32 c32 hc32 => ?_
          refine WL.nil <| WX.br <| WPl.barC <| dv (fun g => (vnil rfl)) <| dv (fun g => (vfldp fl70f3 rfl)) <| WD.eff rfl <| stp (v := .slice _ _ _) pl22 sz22 rfl rfl rfl <| WL.nil <| WX.brT <| WPl.finC <| WD.nil <| WX.thenN <| WC.plan (.pre [5, 6] (.one [0, 1, 2, 3, 4] 7 (.one [] 8 (.bar [9, 10] 11 (.done []))))) rfl (by kernel_rfl) <| WPl.preC <| dv (fun g => (vfldpz fl24f0 rfl)) <| dv (fun g => (vldc pl3 rfl)) <| WD.nil <| WPl.oneX [row b3.sb b3.sc 1 3 (i64s s3.seen)] (by repeat' (first | exact Spl.nil | (apply Spl.cons; focus (first | ((repeat (first | with_reducible exact Tk.here | with_reducible apply Tk.there)); done) | ((repeat (first | exact Tk.here | apply Tk.there)); done))))) (fun g => by infer_instance) ?_
          refine dv (fun g => (vmP rfl)) <| dv (fun g => (vmP rfl)) <| dv (fun g => (vnil rfl)) <| dv (fun g => (vfldp fl70f4 rfl)) <| dv (fun g => (vldc pl68 rfl)) <| WD.eff rfl <| bsln [.int _ _] Try.underlying68 zt3 rfl rfl (by intro v hv; simp only [List.mem_cons, List.not_mem_nil, or_false] at hv; rcases hv with rfl <;> rfl) (by simp) fun b36 => WL.nil <| WX.br <| WPl.oneX [row b3.sb b3.sc 1 3 (i64s s3.seen)] (by repeat' (first | exact Spl.nil | (apply Spl.cons; focus (first | ((repeat (first | with_reducible exact Tk.here | with_reducible apply Tk.there)); done) | ((repeat (first | exact Tk.here | apply Tk.there)); done))))) (fun g => by infer_instance) ?_
          refine WD.eff rfl <| pm (fun _ h => Sb.own (by repeat' (first | with_reducible exact Sb.all | exact Sb.nil | (apply Sb.cons; focus (first | ((repeat (first | with_reducible exact Tk.here | with_reducible apply Tk.there)); done) | ((repeat (first | exact Tk.here | apply Tk.there)); done))) | apply Sb.drop)) h) <| ap (vs := i64s s3.seen) (news := [.int .i64 q.2.term]) rfl Try.underlying68 zt3 rfl rfl rfl (by omega) (rfl) (by intro v hv; simp only [List.mem_cons, List.not_mem_nil, or_false] at hv; rcases hv with rfl; rfl) ((RdC.of_cel (e := 3) (ws := [.int .i64 q.2.term]) 0 (by simp) (by simp))) (by simp only [maxLen]; omega) (by omega) fun base37 c37 hc37 => ?_
          refine WL.nil <| WX.br <| WPl.barC <| dv (fun g => (vnil rfl)) <| dv (fun g => (vfldp fl70f4 rfl)) <| WD.eff rfl <| stp (v := .slice _ _ _) pl68 sz68 rfl rfl rfl <| WL.nil <| WX.brT <| WPl.finC <| WD.nil <| WX.blockN <| WX.thenN <| WC.region <| sv (vmI rfl) <| sv (vadd rfl rfl (by omega)) <| sv (vaI rfl) <| WL.nil <| WX.again (⟨k + 1, { s3 with done := s3.done ++ [d], seen := s3.seen ++ [q.2.term] }, { b3 with db := base32, dc := c32, sb := base37, sc := c37 }⟩) (⟨by show ((k + 1 : Nat) : Int) ≤ _; omega, by show k + 1 ≤ (s3.done ++ [d]).length; simp only [List.length_append, List.length_cons, List.length_nil]; omega, k_s.done_add hqn3 (by omega) (by rw [← hkd]; exact hd3), ⟨k_w.l, k_w.m, k_w.g, by show (s3.done ++ [d]).length ≤ c32; simp only [List.length_append, List.length_cons, List.length_nil]; omega, by show (s3.seen ++ [q.2.term]).length ≤ c37; simp only [List.length_append, List.length_cons, List.length_nil]; omega⟩, k_n, k_m, k_l, by show (s3.done ++ [d]).length ≤ 10000; simp only [List.length_append, List.length_cons, List.length_nil]; omega⟩) (by show q.2.commit.toNat - (k + 1) < q.2.commit.toNat - k; omega) ⟨rfl, trivial⟩ ⟨rfl, rfl, rfl, rfl, trivial⟩ (fun w h => ?_)
          show Own w0 (cel p [.slice b3.lb s3.nodes.length b3.lc, .slice b3.mb s3.mails.length b3.mc, .slice b3.gb s3.led.length b3.gc, .slice base32 (s3.done ++ [d]).length c32, .slice base37 (s3.seen ++ [q.2.term]).length c37] 70 :: row b3.lb b3.lc 1 32 (nptr (s3.nodes.map Prod.fst)) :: hnodes s3.nodes :: row b3.mb b3.mc 9 28 (mvs s3.mails) :: mrows s3.mails :: row b3.gb b3.gc 2 95 (ldv s3.led) :: row base32 c32 2 39 (cvs (s3.done ++ [d])) :: row base37 c37 1 3 (i64s (s3.seen ++ [q.2.term])) :: row r5.1 r5.2 2 39 (cvs q.2.log) :: cel b6 [.int .i64 q.2.term, .int .i64 q.2.vote, .slice r5.1 q.2.log.length r5.2] 24 :: R) w
          rw [cvs_append, show cvs [d] = [.int .i64 d.term, .string d.data] by rfl, show i64s (s3.seen ++ [q.2.term]) = i64s s3.seen ++ [.int .i64 q.2.term] by simp [i64s], show (s3.done ++ [d]).length = s3.done.length + 1 by simp, show (s3.seen ++ [q.2.term]).length = s3.seen.length + 1 by simp]
          exact Sb.own (by repeat' (first | with_reducible exact Sb.all | exact Sb.nil | (apply Sb.cons; focus (first | ((repeat (first | with_reducible exact Tk.here | with_reducible apply Tk.there)); done) | ((repeat (first | exact Tk.here | apply Tk.there)); done))) | apply Sb.drop)) h
      · -- else
        obtain ⟨ii, hii⟩ : ∃ ii, ii = i := ⟨_, rfl⟩
        have hnl3 : s3.nodes.length = s1.nodes.length := by rw [k_n, h2n]
        have hbl3 := k_w.l
        have hln3 : (nptr (s3.nodes.map Prod.fst)).length = s3.nodes.length := by rw [nptr_length, List.length_map]
        refine WC.exit <| WX.thenE <| WX.thenE <| WX.blockH <| WX.thenN <| WC.seq <| WC.region <| sv (vaI rfl) <| WL.nil <| WX.thenN <| WC.block <| ?_
        refine WC.loopS (ι := Nat) (fun i => [(7, .int .i64 i)]) [(0, .pointer _), (3, .int _ _), (4, _)] (fun i => i ≤ ii) (fun i => ii - i) (0) (by omega) ⟨rfl, trivial⟩ ⟨rfl, rfl, rfl, trivial⟩ ?_
        intro kk hkk ρh
        refine WC.seq <| WC.seq <| WC.region <| sv (vmI rfl) <| sv (vmI rfl) <| sv (vlt rfl rfl) <| WL.nil <| WX.thenN <| ?_
        refine WC.ite rfl (fun h7 => ?_) (fun h7 => ?_)
        · -- then
          have hki : kk < s3.nodes.length := by omega
          obtain ⟨qk, hqk⟩ : ∃ q, s3.nodes[kk]? = some q := ⟨_, List.getElem?_eq_getElem hki⟩
          have hqkn : (nsL s3)[kk]? = some qk.2 := by unfold nsL; rw [List.getElem?_map, hqk]; rfl
          have hxk : RInv qk.2 := (k_s.nodes kk qk.2 hqkn).inv
          have hxkl := hxk.log
          have hnp3 : (nptr (s3.nodes.map Prod.fst))[((kk : Int)).toNat]? = some (.pointer (some ⟨qk.1, 0, none⟩)) := nptr_at (by rw [List.getElem?_map, hqk]; rfl)
          refine WC.skip <| WX.thenN <| WC.seq <| WC.block <| WC.seq <| WC.plan (.pre [2, 3, 4, 5, 6, 7, 8] (.one [0, 1] 9 (.done [10, 11, 12]))) rfl (by kernel_rfl) <| WPl.preC <| dv (fun g => (vmP rfl)) <| dv (fun g => (vnil rfl)) <| dv (fun g => (vfldpz fl70f0 rfl)) <| dv (fun g => (vldc pl66 rfl)) <| dv (fun g => (vmI rfl)) <| dv (fun g => (vix1 Try.underlying66 sz32 rfl rfl (by omega) (by omega) (RdC.of_row (c := b3.lc) (s := 1) (e := 32) (vs := nptr (s3.nodes.map Prod.fst)) (by simp)) (by omega))) <| dv (fun g => (vldo pl32 rfl (RdC.of_row (c := b3.lc) (s := 1) (e := 32) (vs := nptr (s3.nodes.map Prod.fst)) (by simp)) hnp3)) <| WD.nil <| WPl.oneX [hnodes s3.nodes] (by repeat' (first | exact Spl.nil | (apply Spl.cons; focus (first | ((repeat (first | with_reducible exact Tk.here | with_reducible apply Tk.there)); done) | ((repeat (first | exact Tk.here | apply Tk.there)); done))))) (fun g => by infer_instance) ?_
          refine dv (fun g => (vfldp fl24f2 rfl)) <| dv (fun g => (vldc pl22 rfl)) <| WD.eff rfl <| clx (by repeat' (first | with_reducible exact Sb.all | exact Sb.nil | (apply Sb.cons; focus (first | ((repeat (first | with_reducible exact Tk.here | with_reducible apply Tk.there)); done) | ((repeat (first | exact Tk.here | apply Tk.there)); done))) | apply Sb.drop)) (stable_in hqk hxk) ct23 rfl fun r44 hr44 => ?_
          refine WL.nil <| WX.br <| WPl.finC <| dv (fun g => (vfd (off := 2) (by kernel_rfl) rfl rfl)) <| dcl (fun g => Fun.quiet (law_matched (a := q.2.log) (b := qk.2.log) (by omega) (by omega) (k_s.match_ hqn3 hqkn))) ct59 rfl <| dv (fun g => (vnot rfl)) <| WD.nil <| WX.thenN <| ?_
          refine WC.ff rfl ?_
          exact WC.skip <| WX.blockN <| WX.thenN <| WC.region <| sv (vmI rfl) <| sv (vadd rfl rfl (by omega)) <| sv (vaI rfl) <| WL.nil <| WX.again (kk + 1) (by omega) (by omega) ⟨rfl, trivial⟩ ⟨rfl, rfl, rfl, trivial⟩ (fun _ h => Sb.own (by repeat' (first | with_reducible exact Sb.all | exact Sb.nil | (apply Sb.cons; focus (first | ((repeat (first | with_reducible exact Tk.here | with_reducible apply Tk.there)); done) | ((repeat (first | exact Tk.here | apply Tk.there)); done))) | apply Sb.drop)) h)
        · -- else
          exact WC.exit <| WX.thenE <| WX.thenE <| WX.blockH <| WX.blockN <| WX.thenN <| WC.region <| sv (vmI rfl) <| sv (vadd rfl rfl (by omega)) <| sv (vaI rfl) <| WL.nil <| WX.again ((i + 1, s3)) (⟨by show i + 1 ≤ s.nodes.length; omega, k_s, k_n.trans (h2n.trans h_n), k_m.trans (h2m.trans h_m), by show s3.led.length ≤ s.led.length + (i + 1); rw [k_l]; omega, k_10⟩) (by show s.nodes.length - (i + 1) < s.nodes.length - i; omega) ⟨rfl, trivial⟩ ⟨rfl, trivial⟩ (fun w h => hnet_mk3 k_w (Sb.own (by repeat' (first | with_reducible exact Sb.all | exact Sb.nil | (apply Sb.cons; focus (first | ((repeat (first | with_reducible exact Tk.here | with_reducible apply Tk.there)); done) | ((repeat (first | exact Tk.here | apply Tk.there)); done))) | apply Sb.drop)) h))
  · -- else
    exact WC.exit <| WX.thenE <| WX.thenE <| WX.blockH <| WX.thenN <| WC.seq <| WC.region <| sv (vaB rfl) <| WL.nil <| WX.thenN <| WC.ret <| WX.ret1 rfl (s1) (by have e : i = s.nodes.length := by { omega }; subst e; exact ⟨h_i, h_sin, h_n, h_m, h_l, h_d⟩) rfl (fun w h => hnet_mk3 hb (Sb.own (by repeat' (first | with_reducible exact Sb.all | exact Sb.nil | (apply Sb.cons; focus (first | ((repeat (first | with_reducible exact Tk.here | with_reducible apply Tk.there)); done) | ((repeat (first | exact Tk.here | apply Tk.there)); done))) | apply Sb.drop)) h))
end Go.Proofs.Ytekoilhjlofncaa
