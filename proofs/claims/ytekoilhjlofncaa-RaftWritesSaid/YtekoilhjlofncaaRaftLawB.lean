/-
  Layer 19: the document's example.
-/
import Derived.Test.YtekoilhjlofncaaRaftLawA
set_option linter.unusedVariables false
set_option linter.unusedSimpArgs false
set_option maxRecDepth 4000
namespace Go.Proofs.Ytekoilhjlofncaa
open Go.Sl Go.RowKit Go.Raft

theorem mrows_rd {w0 : World} {A : List HProp} {ms : List Mh} {x : Mh} (hm : mrows ms ∈ A) (hx : x ∈ ms) : RdC w0 A x.cs.base (cvs x.cs.xs) := fun w hw => by
  obtain ⟨R, hR⟩ := hw.mem hm
  clear hm hw
  induction ms generalizing R with
  | nil => cases hx
  | cons z l ih =>
    have h1 := hR.star
    rcases List.mem_cons.1 hx with rfl | hx
    · exact RdC.of_row (A := row x.cs.base x.cs.cap 2 39 (cvs x.cs.xs) :: mrows l :: R) (List.Mem.head _) w h1
    · exact ih hx _ h1.pk1
theorem mrows_cap {w0 w : World} {A : List HProp} {ms : List Mh} (hw : Own w0 (mrows ms :: A) w) : ∀ x ∈ ms, x.cs.xs.length ≤ x.cs.cap := by
  induction ms generalizing A with
  | nil => intro x hx; cases hx
  | cons z l ih =>
    intro x hx
    have h1 := hw.star
    rcases List.mem_cons.1 hx with rfl | hx
    · have := (row_le h1).1; rw [cvs_length] at this; omega
    · exact ih h1.pk1 x hx
theorem mrows_big {w0 w : World} {A : List HProp} {ms : List Mh} (hw : Own w0 (mrows ms :: A) w) : ∀ x ∈ ms, x.cs.xs.length ≤ 9223372036854775807 := by
  induction ms generalizing A with
  | nil => intro x hx; cases hx
  | cons z l ih =>
    intro x hx
    have h1 := hw.star
    rcases List.mem_cons.1 hx with rfl | hx
    · have h2 := row_le h1
      rw [cvs_length] at h2
      simp only [maxLen] at h2
      omega
    · exact ih h1.pk1 x hx
theorem mails_big {w0 w : World} {A : List HProp} {b : Option Addr} {c : Nat} {ms : List Mh} (hw : Own w0 (row b c 9 28 (mvs ms) :: mrows ms :: A) w) : ms.length ≤ 9223372036854775807 ∧ ∀ m ∈ ms, m.cs.xs.length ≤ 9223372036854775807 := by
  refine ⟨?_, mrows_big hw.pk1⟩
  have := row_le hw
  rw [mvs_length] at this
  simp only [maxLen] at this
  omega
theorem mv0 {ms : List Mh} {m : Mh} {k : Nat} {v : Value} (h : ms[0]? = some m) (hk : k < 9) (hv : (mv m)[k]? = some v) : (mvs ms)[((0 : Int)).toNat * 9 + k]? = some v := by
  rw [show ((0 : Int)).toNat = 0 from rfl, mvs_at h hk, hv]
theorem mg0 {ms : List Mh} {m : Mh} (h : ms[0]? = some m) : ((mvs ms).drop (((0 : Int)).toNat * 9)).take 9 = mv m := mvs_take9 h
theorem map_head {ms : List Mh} {q : Ml} {l : List Ml} (h : ms.map Mh.ml = q :: l) : ∃ m, ms[0]? = some m ∧ m.ml = q ∧ m ∈ ms := by
  cases ms with
  | nil => simp at h
  | cons m ms => simp only [List.map_cons, List.cons.injEq] at h; exact ⟨m, rfl, h.1, by simp⟩
theorem map_len {ms : List Mh} {l : List Ml} (h : ms.map Mh.ml = l) : ms.length = l.length := by rw [← h, List.length_map]
def aN (i : Int) : Rn := newR i 3 0 0 []
def aW (i : Nat) : Rn := { aN 1 with waited := i }
def askQ (k : Int) : Ml := ⟨1, 1, k, 1, 0, 0, 0, false, []⟩
def voteQ : Ml := ⟨2, 2, 1, 1, 0, 0, 0, true, []⟩
def feedQ (k : Int) : Ml := ⟨3, 1, k, 1, 0, 0, 0, false, [⟨1, ByteArray.empty⟩]⟩
def ansQ : Ml := ⟨4, 2, 1, 1, 1, 0, 0, true, []⟩
def aC : Rn := (tickS (aW 12)).1
def aB : Rn := (takeS (aN 2) (askQ 2)).1
def aD : Rn := (takeS aC voteQ).1
def aE : Rn := (takeS aB (feedQ 2)).1
def aF : Rn := (takeS aD ansQ).1
def aG : Rn := (proposeS aF ⟨#[120]⟩).1
theorem aw_tick {i : Nat} (h : i < 12) : tickS (aW i) = (aW (i + 1), []) := by
  have h1 : ¬ (aW i).role = 2 := by show ¬ (0 : Int) = 2; decide
  have h2 : (aW i).waited + 1 < 10 + 3 * (aW i).id ∨ (aW i).term = 1000000000 := .inl (by show (i : Int) + 1 < 10 + 3 * 1; omega)
  unfold tickS
  rw [if_neg h1, if_pos h2]
  rfl
theorem aw_c : (tickS (aW 12)).2 = [askQ 2, askQ 3] := by decide +kernel
theorem aw_b : (takeS (aN 2) (askQ 2)).2 = [voteQ] := by decide +kernel
theorem aw_d : (takeS aC voteQ).2 = [feedQ 2, feedQ 3] := by decide +kernel
theorem aw_d2 : aD.role = 2 := by decide +kernel
theorem aw_e : (takeS aB (feedQ 2)).2 = [ansQ] := by decide +kernel
theorem aw_f : (takeS aD ansQ).2 = [] := by decide +kernel
theorem aw_g : proposeE aF ⟨#[120]⟩ = 0 := by decide +kernel
theorem aw_g1 : aF.log.length = 1 := by decide +kernel
theorem aw_g2 : aG.commit = 1 := by decide +kernel
theorem aw_e2 : aE.leader = 1 := by decide +kernel
theorem aN_inv {i : Int} (h : 1 ≤ i ∧ i ≤ 3) : RInv (aN i) := RInv.new ⟨by decide, by decide, h.1, h.2, by decide⟩
theorem aW_inv {i : Nat} : RInv (aW i) := by
  have h := aN_inv (i := 1) (by decide)
  exact ⟨h.n, h.id, h.term, h.vote, h.log, h.rise, h.role, h.lead, h.commit, by show (0 : Int) ≤ i; omega, h.since, h.voted, h.peers⟩
theorem aC_inv : RInv aC := aW_inv.tick
theorem aB_inv : RInv aB := (aN_inv (by decide)).take
theorem aD_inv : RInv aD := aC_inv.take
theorem aE_inv : RInv aE := aB_inv.take
theorem aF_inv : RInv aF := aD_inv.take
theorem cell_small {m : Mh} {q : Ml} (h : m.ml = q) (hq : q.cells.length ≤ 1) : m.cs.xs.length ≤ 9223372036854775807 := by
  have : m.cs.xs = q.cells := congrArg Ml.cells h
  rw [this]; omega
theorem law_awake {w0 : World} {A : List HProp} : Fun Try.prog w0 12 [] A (Ret w0 (fun _ : Unit => True) (fun _ => .bool true) (fun _ => A)) := by
  refine Fun.enter Try.func12 rfl Try.ntmps12 rfl ?_
  refine WC.seq <| WC.region <| sv (vaB rfl) <| WL.nil <| WX.thenN <| WC.seq <| WC.region <| sv (vbd (ps := []) (cs := [_, _, _]) bt24 zt24 rfl (by rfl)) <| clx (by repeat' (first | with_reducible exact Sb.all | exact Sb.nil | (apply Sb.cons; focus (first | ((repeat (first | with_reducible exact Tk.here | with_reducible apply Tk.there)); done) | ((repeat (first | exact Tk.here | apply Tk.there)); done))) | apply Sb.drop)) (raft_new (hR := ⟨RdC.nil⟩) (l := []) (by decide) (show newOk 1 3 0 0 [] by decide)) ct10 rfl fun r2 hr2 => ?_
  refine sv vmv <| sv (vex rfl rfl) <| sv (vex rfl rfl) <| sv (vaP rfl) <| sv (vaI rfl) <| WL.nil <| WX.thenN <| WC.seq <| WC.region <| sv (vbd (ps := []) (cs := [_, _, _]) bt24 zt24 rfl (by rfl)) <| clx (by repeat' (first | with_reducible exact Sb.all | exact Sb.nil | (apply Sb.cons; focus (first | ((repeat (first | with_reducible exact Tk.here | with_reducible apply Tk.there)); done) | ((repeat (first | exact Tk.here | apply Tk.there)); done))) | apply Sb.drop)) (raft_new (hR := ⟨RdC.nil⟩) (l := []) (by decide) (show newOk 2 3 0 0 [] by decide)) ct10 rfl fun r4 hr4 => ?_
  refine sv vmv <| sv (vex rfl rfl) <| sv (vex rfl rfl) <| sv (vaP rfl) <| sv (vaI rfl) <| WL.nil <| WX.thenN <| WC.seq <| ?_
  refine WC.cut0 [(34, .bool false)] [(1, .pointer _), (3, .pointer _)] (hnode r2 (aN 1) :: hnode r4 (aN 2) :: A) ⟨rfl, rfl, trivial⟩ ?_ fun ρh => ?_
  · -- law.go:21
    exact WC.region <| sv (vmP rfl) <| sv (vpeqF Try.underlying32 rfl rfl) <| sv (vmB rfl) <| svg rfl (vmP rfl) <| svg rfl (vpeqF Try.underlying32 rfl rfl) <| sv (vpkf rfl) <| sv (vmB rfl) <| svg rfl (vmI rfl) <| svg rfl (vF (vne rfl rfl) (by omega)) <| sv (vpkf rfl) <| sv (vmB rfl) <| svg rfl (vmI rfl) <| svg rfl (vF (vne rfl rfl) (by omega)) <| sv (vpkf rfl) <| WL.nil <| WX.mid () trivial ⟨rfl, trivial⟩ ⟨rfl, rfl, trivial⟩ (fun _ h => Sb.own (by repeat' (first | with_reducible exact Sb.all | exact Sb.nil | (apply Sb.cons; focus (first | ((repeat (first | with_reducible exact Tk.here | with_reducible apply Tk.there)); done) | ((repeat (first | exact Tk.here | apply Tk.there)); done))) | apply Sb.drop)) h)
  refine WC.ff rfl ?_
  refine WC.skip <| WX.thenN <| WC.seq <| WC.seq <| WC.region <| sv (vaI rfl) <| WL.nil <| WX.thenN <| WC.block <| ?_
  refine WC.loop (ι := Nat) (fun i => [(5, .int .i64 i)]) [(1, .pointer _), (3, .pointer _)] (fun i => hnode r2 (aW i) :: hnode r4 (aN 2) :: A) (fun i => i ≤ 12) (fun i => 12 - i) (0) (by omega) ⟨rfl, trivial⟩ ⟨rfl, rfl, trivial⟩ (fun _ h => Sb.own (by repeat' (first | with_reducible exact Sb.all | exact Sb.nil | (apply Sb.cons; focus (first | ((repeat (first | with_reducible exact Tk.here | with_reducible apply Tk.there)); done) | ((repeat (first | exact Tk.here | apply Tk.there)); done))) | apply Sb.drop)) h) ?_
  intro i hi ρh
  refine WC.seq <| WC.seq <| WC.region <| sv (vmI rfl) <| sv (vlt rfl rfl) <| WL.nil <| WX.thenN <| ?_
  refine WC.ite rfl (fun h2 => ?_) (fun h2 => ?_)
  · -- then
    refine WC.skip <| WX.thenN <| WC.seq <| WC.block <| WC.seq <| WC.region <| sv (vmP rfl) <| clx (by repeat' (first | with_reducible exact Sb.all | exact Sb.nil | (apply Sb.cons; focus (first | ((repeat (first | with_reducible exact Tk.here | with_reducible apply Tk.there)); done) | ((repeat (first | exact Tk.here | apply Tk.there)); done))) | apply Sb.drop)) (raft_tick (x := aW i) aW_inv (by show (i : Int) + 1 ≤ _; omega)) ct15 rfl fun r7 hr7 => ?_
    rw [aw_tick (by omega)] at hr7 ⊢
    have len7 : r7.2.2.length = 0 := map_len hr7.1
    refine sv (vlen Try.underlying43 rfl) <| sv (vne rfl rfl) <| WL.nil <| WX.thenN <| ?_
    refine WC.ite rfl (fun h3 => ?_) (fun h3 => ?_)
    · -- then
      exact absurd h3 (by omega)
    · -- else
      exact WC.skip <| WX.blockN <| WX.thenN <| WC.region <| sv (vmI rfl) <| sv (vadd rfl rfl (by omega)) <| sv (vaI rfl) <| WL.nil <| WX.again (i + 1) (by omega) (by omega) ⟨rfl, trivial⟩ ⟨rfl, rfl, trivial⟩ (fun _ h => Sb.own (by repeat' (first | with_reducible exact Sb.all | exact Sb.nil | (apply Sb.cons; focus (first | ((repeat (first | with_reducible exact Tk.here | with_reducible apply Tk.there)); done) | ((repeat (first | exact Tk.here | apply Tk.there)); done))) | apply Sb.drop)) h)
  · -- else
    have hi12 : i = 12 := by omega
    subst hi12
    refine WC.exit <| WX.thenE <| WX.thenE <| WX.blockH <| WX.thenN <| WC.seq <| WC.region <| sv (vmP rfl) <| clx (by repeat' (first | with_reducible exact Sb.all | exact Sb.nil | (apply Sb.cons; focus (first | ((repeat (first | with_reducible exact Tk.here | with_reducible apply Tk.there)); done) | ((repeat (first | exact Tk.here | apply Tk.there)); done))) | apply Sb.drop)) (raft_tick (x := aW 12) aW_inv (by decide)) ct15 rfl fun r9 hr9 => ?_
    rw [aw_c] at hr9
    obtain ⟨b9, c9, ms9⟩ := r9
    dsimp only at hr9 ⊢
    have len9 := map_len hr9.1
    simp only [List.length_cons, List.length_nil] at len9
    obtain ⟨m9, at9, q9, mem9⟩ := map_head hr9.1
    have hlv9 := mvs_length ms9
    have hpos9 : 0 < (mvs ms9).length := by omega
    have hf09 : (mvs ms9)[((0 : Int)).toNat * 9 + 0]? = some (.int .i64 1) := mv0 at9 (by decide) (congrArg (fun q : Ml => some (Value.int .i64 q.kind)) q9)
    have hf29 : (mvs ms9)[((0 : Int)).toNat * 9 + 2]? = some (.int .i64 2) := mv0 at9 (by decide) (congrArg (fun q : Ml => some (Value.int .i64 q.to_)) q9)
    have hf39 : (mvs ms9)[((0 : Int)).toNat * 9 + 3]? = some (.int .i64 1) := mv0 at9 (by decide) (congrArg (fun q : Ml => some (Value.int .i64 q.term)) q9)
    have hag9 := mg0 at9
    have hsm9 := cell_small q9 (by decide)
    refine WL.known (fun w h => rsome (base := b9) hpos9 reads h) fun hb9 => ?_
    refine WL.known (p := m9.cs.xs.length ≤ m9.cs.cap) (fun w h => mrows_cap (ms := ms9) (h.pk1) m9 mem9) fun hcap9 => ?_
    refine sv (vaS rfl) <| WL.nil <| WX.thenN <| WC.seq <| ?_
    refine WC.cutS [(68, .bool false)] [(1, .pointer _), (3, .pointer _), (6, .slice _ _ _)] ⟨rfl, rfl, rfl, trivial⟩ ?_ fun ρh => ?_
    · -- law.go:30
      exact WC.region <| sv (vmS rfl) <| sv (vlen Try.underlying43 rfl) <| sv (vF (vne rfl rfl) (by omega)) <| sv (vmB rfl) <| svg rfl (vmS rfl) <| svg rfl (vix Try.underlying43 sz28 rfl rfl (by omega) (by omega) reads (hpos9)) <| svg rfl (vfldr (hb9) fl28f0 rfl) <| svg rfl (vldo pl3 rfl reads (hf09)) <| svg rfl (vF (vne rfl rfl) (by omega)) <| sv (vpkf rfl) <| sv (vmB rfl) <| svg rfl (vmS rfl) <| svg rfl (vix Try.underlying43 sz28 rfl rfl (by omega) (by omega) reads (hpos9)) <| svg rfl (vfldr (hb9) fl28f2 rfl) <| svg rfl (vldo pl3 rfl reads (hf29)) <| svg rfl (vF (vne rfl rfl) (by omega)) <| sv (vpkf rfl) <| sv (vmB rfl) <| svg rfl (vmS rfl) <| svg rfl (vix Try.underlying43 sz28 rfl rfl (by omega) (by omega) reads (hpos9)) <| svg rfl (vfldr (hb9) fl28f3 rfl) <| svg rfl (vldo pl3 rfl reads (hf39)) <| svg rfl (vF (vne rfl rfl) (by omega)) <| sv (vpkf rfl) <| WL.nil <| WX.mid () trivial ⟨rfl, trivial⟩ ⟨rfl, rfl, rfl, trivial⟩ (fun _ h => Sb.own (by repeat' (first | with_reducible exact Sb.all | exact Sb.nil | (apply Sb.cons; focus (first | ((repeat (first | with_reducible exact Tk.here | with_reducible apply Tk.there)); done) | ((repeat (first | exact Tk.here | apply Tk.there)); done))) | apply Sb.drop)) h)
    refine WC.ff rfl ?_
    refine WC.skip <| WX.thenN <| WC.seq <| WC.region <| sv (vmP rfl) <| sv (vmS rfl) <| sv (vix Try.underlying43 sz28 rfl rfl (by omega) (by omega) reads hpos9) <| sv (vlda ag28 sz28 rfl reads (hag9) rfl (by decide)) <| clx (by repeat' (first | with_reducible exact Sb.all | exact Sb.nil | (apply Sb.cons; focus (first | ((repeat (first | with_reducible exact Tk.here | with_reducible apply Tk.there)); done) | ((repeat (first | exact Tk.here | apply Tk.there)); done))) | apply Sb.drop)) (raft_take (x := aN 2) (m := m9) (aN_inv (by decide)) hsm9 hcap9 (hR := ⟨mrows_rd (ms := ms9) (by simp) mem9⟩)) ct17 rfl fun r18 hr18 => ?_
    rw [q9, show takeS (aN 2) (askQ 2) = (aB, [voteQ]) from Prod.ext rfl aw_b] at hr18 ⊢
    obtain ⟨b18, c18, ms18⟩ := r18
    dsimp only at hr18 ⊢
    have len18 := map_len hr18.1
    simp only [List.length_cons, List.length_nil] at len18
    obtain ⟨m18, at18, q18, mem18⟩ := map_head hr18.1
    have hlv18 := mvs_length ms18
    have hpos18 : 0 < (mvs ms18).length := by omega
    have hf718 : (mvs ms18)[((0 : Int)).toNat * 9 + 7]? = some (.bool true) := mv0 at18 (by decide) (congrArg (fun q : Ml => some (Value.bool q.ok)) q18)
    have hag18 := mg0 at18
    have hsm18 := cell_small q18 (by decide)
    refine WL.known (fun w h => rsome (base := b18) hpos18 reads h) fun hb18 => ?_
    refine WL.known (p := m18.cs.xs.length ≤ m18.cs.cap) (fun w h => mrows_cap (ms := ms18) (h.pk1) m18 mem18) fun hcap18 => ?_
    refine sv (vaS rfl) <| WL.nil <| WX.thenN <| WC.seq <| ?_
    refine WC.cutS [(83, .bool false)] [(1, .pointer _), (3, .pointer _), (7, .slice _ _ _)] ⟨rfl, rfl, rfl, trivial⟩ ?_ fun ρh => ?_
    · -- law.go:34
      exact WC.region <| sv (vmS rfl) <| sv (vlen Try.underlying43 rfl) <| sv (vF (vne rfl rfl) (by omega)) <| sv (vmB rfl) <| svg rfl (vmS rfl) <| svg rfl (vix Try.underlying43 sz28 rfl rfl (by omega) (by omega) reads (hpos18)) <| svg rfl (vfldr (hb18) fl28f7 rfl) <| svg rfl (vldo pl4 rfl reads (hf718)) <| svg rfl (vnot rfl) <| sv (vpkf rfl) <| WL.nil <| WX.mid () trivial ⟨rfl, trivial⟩ ⟨rfl, rfl, rfl, trivial⟩ (fun _ h => Sb.own (by repeat' (first | with_reducible exact Sb.all | exact Sb.nil | (apply Sb.cons; focus (first | ((repeat (first | with_reducible exact Tk.here | with_reducible apply Tk.there)); done) | ((repeat (first | exact Tk.here | apply Tk.there)); done))) | apply Sb.drop)) h)
    refine WC.ff rfl ?_
    refine WC.skip <| WX.thenN <| WC.seq <| WC.region <| sv (vmP rfl) <| sv (vmS rfl) <| sv (vix Try.underlying43 sz28 rfl rfl (by omega) (by omega) reads hpos18) <| sv (vlda ag28 sz28 rfl reads (hag18) rfl (by decide)) <| clx (by repeat' (first | with_reducible exact Sb.all | exact Sb.nil | (apply Sb.cons; focus (first | ((repeat (first | with_reducible exact Tk.here | with_reducible apply Tk.there)); done) | ((repeat (first | exact Tk.here | apply Tk.there)); done))) | apply Sb.drop)) (raft_take (x := aC) (m := m18) aC_inv hsm18 hcap18 (hR := ⟨mrows_rd (ms := ms18) (by simp) mem18⟩)) ct17 rfl fun r23 hr23 => ?_
    rw [q18, show takeS aC voteQ = (aD, [feedQ 2, feedQ 3]) from Prod.ext rfl aw_d] at hr23 ⊢
    obtain ⟨b23, c23, ms23⟩ := r23
    dsimp only at hr23 ⊢
    have len23 := map_len hr23.1
    simp only [List.length_cons, List.length_nil] at len23
    obtain ⟨m23, at23, q23, mem23⟩ := map_head hr23.1
    have hlv23 := mvs_length ms23
    have hpos23 : 0 < (mvs ms23).length := by omega
    have hf823 : (mvs ms23)[((0 : Int)).toNat * 9 + 8]? = some (.slice m23.cs.base m23.cs.xs.length m23.cs.cap) := mv0 at23 (by decide) rfl
    have hcl23 : m23.cs.xs.length = 1 := congrArg (fun q : Ml => q.cells.length) q23
    have hag23 := mg0 at23
    have hsm23 := cell_small q23 (by decide)
    refine WL.known (fun w h => rsome (base := b23) hpos23 reads h) fun hb23 => ?_
    refine WL.known (p := m23.cs.xs.length ≤ m23.cs.cap) (fun w h => mrows_cap (ms := ms23) (h.pk1) m23 mem23) fun hcap23 => ?_
    refine sv (vaS rfl) <| WL.nil <| WX.thenN <| WC.seq <| ?_
    refine WC.cutS [(104, .bool false)] [(1, .pointer _), (3, .pointer _), (6, .slice _ _ _)] ⟨rfl, rfl, rfl, trivial⟩ ?_ fun ρh => ?_
    · -- law.go:38
      refine WC.region <| sv (vmS rfl) <| sv (vlen Try.underlying43 rfl) <| sv (vF (vne rfl rfl) (by omega)) <| sv (vmB rfl) <| svg rfl (vmS rfl) <| svg rfl (vix Try.underlying43 sz28 rfl rfl (by omega) (by omega) reads (hpos23)) <| svg rfl (vfldr (hb23) fl28f8 rfl) <| svg rfl (vldo pl22 rfl reads (hf823)) <| svg rfl (vlen Try.underlying22 rfl) <| svg rfl (vF (vne rfl rfl) (by omega)) <| sv (vpkf rfl) <| sv (vmB rfl) <| svg rfl (vmP rfl) <| gy rfl <| clx (by repeat' (first | with_reducible exact Sb.all | exact Sb.nil | (apply Sb.cons; focus (first | ((repeat (first | with_reducible exact Tk.here | with_reducible apply Tk.there)); done) | ((repeat (first | exact Tk.here | apply Tk.there)); done))) | apply Sb.drop)) (raft_role (x := aD)) ct25 rfl fun r26 hr26 => ?_
      rw [aw_d2]
      exact svg rfl (vF (vne rfl rfl) (by omega)) <| sv (vpkf rfl) <| WL.nil <| WX.mid () trivial ⟨rfl, trivial⟩ ⟨rfl, rfl, rfl, trivial⟩ (fun _ h => Sb.own (by repeat' (first | with_reducible exact Sb.all | exact Sb.nil | (apply Sb.cons; focus (first | ((repeat (first | with_reducible exact Tk.here | with_reducible apply Tk.there)); done) | ((repeat (first | exact Tk.here | apply Tk.there)); done))) | apply Sb.drop)) h)
    refine WC.ff rfl ?_
    refine WC.skip <| WX.thenN <| WC.seq <| WC.region <| sv (vmP rfl) <| sv (vmS rfl) <| sv (vix Try.underlying43 sz28 rfl rfl (by omega) (by omega) reads hpos23) <| sv (vlda ag28 sz28 rfl reads (hag23) rfl (by decide)) <| clx (by repeat' (first | with_reducible exact Sb.all | exact Sb.nil | (apply Sb.cons; focus (first | ((repeat (first | with_reducible exact Tk.here | with_reducible apply Tk.there)); done) | ((repeat (first | exact Tk.here | apply Tk.there)); done))) | apply Sb.drop)) (raft_take (x := aB) (m := m23) aB_inv hsm23 hcap23 (hR := ⟨mrows_rd (ms := ms23) (by simp) mem23⟩)) ct17 rfl fun r29 hr29 => ?_
    rw [q23, show takeS aB (feedQ 2) = (aE, [ansQ]) from Prod.ext rfl aw_e] at hr29 ⊢
    obtain ⟨b29, c29, ms29⟩ := r29
    dsimp only at hr29 ⊢
    have len29 := map_len hr29.1
    simp only [List.length_cons, List.length_nil] at len29
    obtain ⟨m29, at29, q29, mem29⟩ := map_head hr29.1
    have hlv29 := mvs_length ms29
    have hpos29 : 0 < (mvs ms29).length := by omega
    have hf729 : (mvs ms29)[((0 : Int)).toNat * 9 + 7]? = some (.bool true) := mv0 at29 (by decide) (congrArg (fun q : Ml => some (Value.bool q.ok)) q29)
    have hf429 : (mvs ms29)[((0 : Int)).toNat * 9 + 4]? = some (.int .i64 1) := mv0 at29 (by decide) (congrArg (fun q : Ml => some (Value.int .i64 q.index)) q29)
    have hag29 := mg0 at29
    have hsm29 := cell_small q29 (by decide)
    refine WL.known (fun w h => rsome (base := b29) hpos29 reads h) fun hb29 => ?_
    refine WL.known (p := m29.cs.xs.length ≤ m29.cs.cap) (fun w h => mrows_cap (ms := ms29) (h.pk1) m29 mem29) fun hcap29 => ?_
    refine sv (vaS rfl) <| WL.nil <| WX.thenN <| WC.seq <| ?_
    refine WC.cutS [(126, .bool false)] [(1, .pointer _), (3, .pointer _), (7, .slice _ _ _)] ⟨rfl, rfl, rfl, trivial⟩ ?_ fun ρh => ?_
    · -- law.go:42
      exact WC.region <| sv (vmS rfl) <| sv (vlen Try.underlying43 rfl) <| sv (vF (vne rfl rfl) (by omega)) <| sv (vmB rfl) <| svg rfl (vmS rfl) <| svg rfl (vix Try.underlying43 sz28 rfl rfl (by omega) (by omega) reads (hpos29)) <| svg rfl (vfldr (hb29) fl28f7 rfl) <| svg rfl (vldo pl4 rfl reads (hf729)) <| svg rfl (vnot rfl) <| sv (vpkf rfl) <| sv (vmB rfl) <| svg rfl (vmS rfl) <| svg rfl (vix Try.underlying43 sz28 rfl rfl (by omega) (by omega) reads (hpos29)) <| svg rfl (vfldr (hb29) fl28f4 rfl) <| svg rfl (vldo pl3 rfl reads (hf429)) <| svg rfl (vF (vne rfl rfl) (by omega)) <| sv (vpkf rfl) <| WL.nil <| WX.mid () trivial ⟨rfl, trivial⟩ ⟨rfl, rfl, rfl, trivial⟩ (fun _ h => Sb.own (by repeat' (first | with_reducible exact Sb.all | exact Sb.nil | (apply Sb.cons; focus (first | ((repeat (first | with_reducible exact Tk.here | with_reducible apply Tk.there)); done) | ((repeat (first | exact Tk.here | apply Tk.there)); done))) | apply Sb.drop)) h)
    refine WC.ff rfl ?_
    refine WC.skip <| WX.thenN <| WC.seq <| WC.region <| sv (vmP rfl) <| sv (vmS rfl) <| sv (vix Try.underlying43 sz28 rfl rfl (by omega) (by omega) reads hpos29) <| sv (vlda ag28 sz28 rfl reads (hag29) rfl (by decide)) <| clx (by repeat' (first | with_reducible exact Sb.all | exact Sb.nil | (apply Sb.cons; focus (first | ((repeat (first | with_reducible exact Tk.here | with_reducible apply Tk.there)); done) | ((repeat (first | exact Tk.here | apply Tk.there)); done))) | apply Sb.drop)) (raft_take (x := aD) (m := m29) aD_inv hsm29 hcap29 (hR := ⟨mrows_rd (ms := ms29) (by simp) mem29⟩)) ct17 rfl fun r36 hr36 => ?_
    rw [q29, show takeS aD ansQ = (aF, []) from Prod.ext rfl aw_f] at hr36 ⊢
    obtain ⟨b36, c36, ms36⟩ := r36
    dsimp only at hr36 ⊢
    have len36 := map_len hr36.1
    simp only [List.length_cons, List.length_nil] at len36
    refine sv (vaS rfl) <| WL.nil <| WX.thenN <| WC.seq <| WC.region <| sv (vmP rfl) <| clx (by repeat' (first | with_reducible exact Sb.all | exact Sb.nil | (apply Sb.cons; focus (first | ((repeat (first | with_reducible exact Tk.here | with_reducible apply Tk.there)); done) | ((repeat (first | exact Tk.here | apply Tk.there)); done))) | apply Sb.drop)) (raft_propose (x := aF) aF_inv aw_g) ct21 rfl fun r37 hr37 => ?_
    rw [aw_g1]
    refine sv vmv <| sv (vex rfl rfl) <| sv (vex rfl rfl) <| sv (vex rfl rfl) <| sv (vaI rfl) <| sv (vaS rfl) <| sv (vaI rfl) <| WL.nil <| WX.thenN <| ?_
    refine WC.cut0 [(0, .bool true)] [] (A) trivial ?_ fun ρh => ?_
    · -- law.go:47
      refine WC.region <| sv (vmS rfl) <| sv (vlen Try.underlying43 rfl) <| sv (vT (veq rfl rfl) (by omega)) <| sv (vmB rfl) <| svg rfl (vmP rfl) <| gy rfl <| clx (by repeat' (first | with_reducible exact Sb.all | exact Sb.nil | (apply Sb.cons; focus (first | ((repeat (first | with_reducible exact Tk.here | with_reducible apply Tk.there)); done) | ((repeat (first | exact Tk.here | apply Tk.there)); done))) | apply Sb.drop)) (raft_commit (x := aG)) ct24 rfl fun r38 hr38 => ?_
      rw [aw_g2]
      refine svg rfl (vT (veq rfl rfl) (by omega)) <| sv (vpkt rfl) <| sv (vmB rfl) <| svg rfl (vmI rfl) <| svg rfl (vT (veq rfl rfl) (by omega)) <| sv (vpkt rfl) <| sv (vmB rfl) <| svg rfl (vmI rfl) <| svg rfl (vT (veq rfl rfl) (by omega)) <| sv (vpkt rfl) <| sv (vmB rfl) <| svg rfl (vmP rfl) <| gy rfl <| clx (by repeat' (first | with_reducible exact Sb.all | exact Sb.nil | (apply Sb.cons; focus (first | ((repeat (first | with_reducible exact Tk.here | with_reducible apply Tk.there)); done) | ((repeat (first | exact Tk.here | apply Tk.there)); done))) | apply Sb.drop)) (raft_leader (x := aE)) ct26 rfl fun r39 hr39 => ?_
      rw [aw_e2]
      exact svg rfl (vT (veq rfl rfl) (by omega)) <| sv (vpkt rfl) <| sv (vaB rfl) <| WL.nil <| WX.mid () trivial ⟨rfl, trivial⟩ trivial (fun _ h => Sb.own (by repeat' (first | with_reducible exact Sb.all | exact Sb.nil | (apply Sb.cons; focus (first | ((repeat (first | with_reducible exact Tk.here | with_reducible apply Tk.there)); done) | ((repeat (first | exact Tk.here | apply Tk.there)); done))) | apply Sb.drop)) h)
    exact WC.ret <| WX.ret1 rfl (()) (trivial) rfl (fun _ h => Sb.own (by repeat' (first | with_reducible exact Sb.all | exact Sb.nil | (apply Sb.cons; focus (first | ((repeat (first | with_reducible exact Tk.here | with_reducible apply Tk.there)); done) | ((repeat (first | exact Tk.here | apply Tk.there)); done))) | apply Sb.drop)) h)
end Go.Proofs.Ytekoilhjlofncaa
