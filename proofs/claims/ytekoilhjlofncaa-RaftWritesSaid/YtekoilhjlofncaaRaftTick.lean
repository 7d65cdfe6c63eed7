/-
  Layer 19: time goes by.
-/
import Derived.Test.YtekoilhjlofncaaRaftSpecF
set_option linter.unusedVariables false
set_option linter.unusedSimpArgs false
set_option maxRecDepth 4000
namespace Go.Proofs.Ytekoilhjlofncaa
open Go.Sl Go.RowKit Go.Raft

/-- mails handed back, and the node -/
abbrev MR (w0 : World) (p : Nat) (A : List HProp) (y : Rn × List Ml) : Ending → World → Prop :=
  Ret w0 (fun i : Option Addr × Nat × List Mh => i.2.2.map Mh.ml = y.2 ∧ i.2.2.length ≤ i.2.1) (fun i => .slice i.1 i.2.2.length i.2.1) (fun i => row i.1 i.2.1 9 28 (mvs i.2.2) :: mrows i.2.2 :: hnode p y.1 :: A)
theorem no_mails {w0 w : World} {A : List HProp} (H : Own w0 A w) : Own w0 (row none 0 9 28 (mvs []) :: mrows [] :: A) w := (H.intro_emp).intro_row_nil
theorem leadS_role {x : Rn} (hm : x.n < 2 * (x.voted.length : Int)) : (leadS x).1.role = 2 := by
  unfold leadS
  rw [if_pos hm]
  split <;> rfl
theorem leadS_others {x : Rn} (hm : x.n < 2 * (x.voted.length : Int)) : others (leadS x).1 = others x := by
  unfold leadS
  rw [if_pos hm]
  split <;> rfl
theorem raft_tick_lead {w0 : World} {A : List HProp} {p : Nat} {x : Rn} (hx : RInv x) (hr : x.role = 2) :
    Fun Try.prog w0 15 [.pointer (some ⟨p, 0, none⟩)] (hnode p x :: A) (MR w0 p A (tickS x)) := by
  refine Fun.ex (fun w h => hnode_open2 hr h) ?_
  rintro ⟨base, c, vv, m, ps⟩ ⟨hc, hps⟩
  dsimp only at hc hps ⊢
  have hs := hx.since
  have hn := hx.n
  have hl := hx.log
  have hpe := hx.peers hr
  refine Fun.enterM Try.func15 rfl Try.ntmps15 rfl ?_
  refine WC.seq <| WC.region <| bxc (v := .pointer _) (cs := [.pointer _]) rfl rfl fun b1 => sv (vaS rfl) <| WL.nil <| WX.thenN <| WC.seq <| WC.seq <| WC.region <| sv (vldc pl32 rfl) <| sv (vpeqF Try.underlying32 rfl rfl) <| WL.nil <| WX.thenN <| ?_
  refine WC.ff rfl ?_
  refine WC.skip <| WX.thenN <| WC.seq <| WC.seq <| WC.region <| sv (vldc pl32 rfl) <| sv (vnil rfl) <| sv (vfld fl76f5 rfl) <| sv (vldc pl3 rfl) <| sv (veq rfl rfl) <| WL.nil <| WX.thenN <| ?_
  refine WC.ite rfl (fun h2 => ?_) (fun h2 => ?_)
  · -- then
    refine WC.seq <| WC.seq <| WC.region <| sv (vldc pl32 rfl) <| sv (vnil rfl) <| sv (vfld fl76f9 rfl) <| sv (vldc pl3 rfl) <| sv (vadd rfl rfl (by omega)) <| sv (vnil rfl) <| sv (vfld fl76f9 rfl) <| pm (fun _ h => h.pk1) <| stc (v := .int _ _) pl3 sz3 rfl rfl rfl <| WL.nil <| WX.thenN <| WC.seq <| WC.region <| sv (vldc pl32 rfl) <| sv (vnil rfl) <| sv (vfld fl76f9 rfl) <| sv (vldc pl3 rfl) <| sv (vlt rfl rfl) <| WL.nil <| WX.thenN <| ?_
    refine WC.ite rfl (fun h3 => ?_) (fun h3 => ?_)
    · -- then
      have ht : tickS x = ({ x with since := x.since + 1 }, []) := by unfold tickS; rw [if_pos hr, if_pos h3]
      unfold MR
      rw [ht]
      exact WC.seq <| WC.region <| sv (vaS rfl) <| WL.nil <| WX.thenN <| WC.ret <| WX.thenR <| WX.thenR <| WX.ret1M rfl ((none, 0, [])) (⟨rfl, Nat.le_refl _⟩) rfl (fun w h => no_mails (hnode_mk2 (x := { x with since := x.since + 1 }) hr hc hps h.pk1.tail))
    · -- else
      have ht : tickS x = feedAllS { x with since := x.since + 1 } := by unfold tickS; rw [if_pos hr, if_neg h3]
      unfold MR
      rw [ht]
      exact WC.skip <| WX.thenN <| WC.seq <| WC.region <| sv (vldc pl32 rfl) <| pm (fun _ h => h.pk4.pk4.pk4.pk3) <| cl (raft_feedAll (x := { x with since := x.since + 1 }) ⟨by show 0 ≤ x.n; omega, by show x.n ≤ 5; omega⟩ hl hc (fun k _ => by have := hpe k; exact ⟨by show 1 ≤ x.nx k; omega, this.2.2⟩) hps) ct35 rfl fun i13 hi13 => sv (vaS rfl) <| WL.nil <| WX.thenN <| WC.ret <| WX.thenR <| WX.ret1M rfl (i13) (hi13) rfl (fun w h => (hnode_mk2 (x := (feedAllS { x with since := x.since + 1 }).1) hr hc hps (h.ix [6, 2, 3, 4, 5, 0, 1]).tail).ix [1, 2, 0])
  · -- else
    exact absurd hr h2
theorem raft_tick_idle {w0 : World} {A : List HProp} {p : Nat} {x : Rn} (hx : RInv x) (hr : x.role ≠ 2) (hw : x.waited + 1 ≤ 9223372036854775807) (hi : x.waited + 1 < 10 + 3 * x.id ∨ x.term = 1000000000) :
    Fun Try.prog w0 15 [.pointer (some ⟨p, 0, none⟩)] (hnode p x :: A) (MR w0 p A (tickS x)) := by
  refine Fun.ex (fun w h => hnode_open h) ?_
  rintro ⟨base, c, vv, pv⟩ hc
  dsimp only at hc ⊢
  have hw0 := hx.waited
  have hn := hx.n
  have hid := hx.id
  have hl := hx.log
  have htm := hx.term
  have hcm := hx.commit
  have ht : tickS x = ({ x with waited := x.waited + 1 }, []) := by unfold tickS; rw [if_neg hr, if_pos hi]
  unfold MR
  rw [ht]
  refine Fun.enterM Try.func15 rfl Try.ntmps15 rfl ?_
  refine WC.seq <| WC.region <| bxc (v := .pointer _) (cs := [.pointer _]) rfl rfl fun b1 => sv (vaS rfl) <| WL.nil <| WX.thenN <| WC.seq <| WC.seq <| WC.region <| sv (vldc pl32 rfl) <| sv (vpeqF Try.underlying32 rfl rfl) <| WL.nil <| WX.thenN <| ?_
  refine WC.ff rfl ?_
  refine WC.skip <| WX.thenN <| WC.seq <| WC.seq <| WC.region <| sv (vldc pl32 rfl) <| sv (vnil rfl) <| sv (vfld fl76f5 rfl) <| sv (vldc pl3 rfl) <| sv (veq rfl rfl) <| WL.nil <| WX.thenN <| ?_
  refine WC.ite rfl (fun h2 => ?_) (fun h2 => ?_)
  · -- then
    exact absurd h2 hr
  · -- else
    refine WC.skip <| WX.thenN <| WC.seq <| WC.seq <| WC.region <| sv (vldc pl32 rfl) <| sv (vnil rfl) <| sv (vfld fl76f8 rfl) <| sv (vldc pl3 rfl) <| sv (vadd rfl rfl (by omega)) <| sv (vnil rfl) <| sv (vfld fl76f8 rfl) <| pm (fun _ h => h.pk1) <| stc (v := .int _ _) pl3 sz3 rfl rfl rfl <| WL.nil <| WX.thenN <| ?_
    refine WC.cut0 [(52, .bool (decide (x.waited + 1 < 10 + 3 * x.id ∨ x.term = 1000000000)))] [(1, _)] (cel p (ncells { x with waited := x.waited + 1 } base c vv pv) 76 :: cel b1 [.pointer (some ⟨p, 0, none⟩)] 32 :: row base c 2 39 (cvs x.log) :: extraC x vv pv :: A) ⟨rfl, trivial⟩ ?_ fun ρh => ?_
    · -- raft.go:134
      refine WC.draws rfl (by kernel_rfl) <| qv (vldc pl32 rfl) <| qv (vnil rfl) <| qv (vfld fl76f8 rfl) <| qv (vldc pl3 rfl) <| qv (vldc pl32 rfl) <| qv (vnil rfl) <| qv (vfld fl76f0 rfl) <| qv (vldc pl3 rfl) <| qv (vmul rfl rfl (by omega)) <| qv (vadd rfl rfl (by omega)) <| qvs (vlt rfl rfl) (fun q1 => ?_) (fun q1 => ?_)
      ·
        exact qv (vmB rfl) <| qng rfl <| qng rfl <| qng rfl <| qng rfl <| qng rfl <| qv (vpkt rfl) <| WQ.nil <| WX.mid () trivial ⟨bT (by first | omega | simp_all | grind), trivial⟩ ⟨rfl, trivial⟩ (fun _ h => h)
      ·
        exact qv (vmB rfl) <| qvg rfl (vldc pl32 rfl) <| qvg rfl (vnil rfl) <| qvg rfl (vfld fl76f2 rfl) <| qvg rfl (vldc pl3 rfl) <| qvg rfl (veq rfl rfl) <| qv (vpkf rfl) <| WQ.nil <| WX.mid () trivial ⟨bI (by first | omega | simp_all | grind), trivial⟩ ⟨rfl, trivial⟩ (fun _ h => h)
    refine WC.ite rfl (fun h3 => ?_) (fun h3 => ?_)
    · -- then
      exact WC.seq <| WC.region <| sv (vaS rfl) <| WL.nil <| WX.thenN <| WC.ret <| WX.thenR <| WX.ret1M rfl ((none, 0, [])) (⟨rfl, Nat.le_refl _⟩) rfl (fun w h => no_mails (hnode_mk (x := { x with waited := x.waited + 1 }) hc h.pk1.tail))
    · -- else
      exact absurd hi h3
theorem raft_tick_one {w0 : World} {A : List HProp} {p : Nat} {x : Rn} (hx : RInv x) (hr : x.role ≠ 2) (hw : x.waited + 1 ≤ 9223372036854775807) (hi : ¬ (x.waited + 1 < 10 + 3 * x.id ∨ x.term = 1000000000)) (h1 : x.n < 2) :
    Fun Try.prog w0 15 [.pointer (some ⟨p, 0, none⟩)] (hnode p x :: A) (MR w0 p A (tickS x)) := by
  refine Fun.ex (B := fun i : Option Addr × Nat × Value × Value => cel p (ncells x i.1 i.2.1 i.2.2.1 i.2.2.2) 76 :: row i.1 i.2.1 2 39 (cvs x.log) :: A) (q := fun i => x.log.length ≤ i.2.1) (fun w h => by obtain ⟨i, hi, hO⟩ := hnode_open h; exact ⟨i, hi, hO.pk2.tail⟩) ?_
  rintro ⟨base, c, vv, pv⟩ hc
  dsimp only at hc ⊢
  have hw0 := hx.waited
  have hn := hx.n
  have hid := hx.id
  have hl := hx.log
  have htm := hx.term
  have hcm := hx.commit
  have ht : tickS x = leadS (runS x) := by unfold tickS; rw [if_neg hr, if_neg hi, if_pos h1]
  unfold MR
  rw [ht]
  have hvn : (runS x).n < 2 * ((runS x).voted.length : Int) := by show x.n < 2 * (1 : Int); omega
  refine Fun.enterM Try.func15 rfl Try.ntmps15 rfl ?_
  refine WC.seq <| WC.region <| bxc (v := .pointer _) (cs := [.pointer _]) rfl rfl fun b1 => sv (vaS rfl) <| WL.nil <| WX.thenN <| WC.seq <| WC.seq <| WC.region <| sv (vldc pl32 rfl) <| sv (vpeqF Try.underlying32 rfl rfl) <| WL.nil <| WX.thenN <| ?_
  refine WC.ff rfl ?_
  refine WC.skip <| WX.thenN <| WC.seq <| WC.seq <| WC.region <| sv (vldc pl32 rfl) <| sv (vnil rfl) <| sv (vfld fl76f5 rfl) <| sv (vldc pl3 rfl) <| sv (veq rfl rfl) <| WL.nil <| WX.thenN <| ?_
  refine WC.ite rfl (fun h2 => ?_) (fun h2 => ?_)
  · -- then
    exact absurd h2 hr
  · -- else
    refine WC.skip <| WX.thenN <| WC.seq <| WC.seq <| WC.region <| sv (vldc pl32 rfl) <| sv (vnil rfl) <| sv (vfld fl76f8 rfl) <| sv (vldc pl3 rfl) <| sv (vadd rfl rfl (by omega)) <| sv (vnil rfl) <| sv (vfld fl76f8 rfl) <| pm (fun _ h => h.pk1) <| stc (v := .int _ _) pl3 sz3 rfl rfl rfl <| WL.nil <| WX.thenN <| ?_
    refine WC.cut0 [(52, .bool (decide (x.waited + 1 < 10 + 3 * x.id ∨ x.term = 1000000000)))] [(1, _)] (cel p (ncells { x with waited := x.waited + 1 } base c vv pv) 76 :: cel b1 [.pointer (some ⟨p, 0, none⟩)] 32 :: row base c 2 39 (cvs x.log) :: A) ⟨rfl, trivial⟩ ?_ fun ρh => ?_
    · -- raft.go:134
      refine WC.draws rfl (by kernel_rfl) <| qv (vldc pl32 rfl) <| qv (vnil rfl) <| qv (vfld fl76f8 rfl) <| qv (vldc pl3 rfl) <| qv (vldc pl32 rfl) <| qv (vnil rfl) <| qv (vfld fl76f0 rfl) <| qv (vldc pl3 rfl) <| qv (vmul rfl rfl (by omega)) <| qv (vadd rfl rfl (by omega)) <| qvs (vlt rfl rfl) (fun q1 => ?_) (fun q1 => ?_)
      ·
        exact qv (vmB rfl) <| qng rfl <| qng rfl <| qng rfl <| qng rfl <| qng rfl <| qv (vpkt rfl) <| WQ.nil <| WX.mid () trivial ⟨bT (by first | omega | simp_all | grind), trivial⟩ ⟨rfl, trivial⟩ (fun _ h => h)
      ·
        exact qv (vmB rfl) <| qvg rfl (vldc pl32 rfl) <| qvg rfl (vnil rfl) <| qvg rfl (vfld fl76f2 rfl) <| qvg rfl (vldc pl3 rfl) <| qvg rfl (veq rfl rfl) <| qv (vpkf rfl) <| WQ.nil <| WX.mid () trivial ⟨bI (by first | omega | simp_all | grind), trivial⟩ ⟨rfl, trivial⟩ (fun _ h => h)
    refine WC.ite rfl (fun h3 => ?_) (fun h3 => ?_)
    · -- then
      exact absurd h3 hi
    · -- else
      refine WC.skip <| WX.thenN <| WC.seq <| WC.region <| sv (vldc pl32 rfl) <| sv (vnil rfl) <| sv (vfld fl76f2 rfl) <| sv (vldc pl3 rfl) <| sv (vadd (a := x.term) rfl rfl (by omega)) <| sv (vnil rfl) <| sv (vfld fl76f2 rfl) <| stc (v := .int _ _) pl3 sz3 rfl rfl rfl <| WL.nil <| WX.thenN <| WC.seq <| WC.plan (.pre [0, 4, 5, 6, 7, 8, 9] (.one [1, 2, 3] 10 (.pre [11, 12] (.one [] 13 (.pre [14, 15] (.one [] 16 (.bar [17, 18] 19 (.done [])))))))) rfl (by kernel_rfl) <| WPl.pre (trivial) <| dv (fun g => (vldc pl32 rfl)) <| dv (fun g => (vldc pl32 rfl)) <| dv (fun g => (vnil rfl)) <| dv (fun g => (vfld fl76f0 rfl)) <| dv (fun g => (vldc pl3 rfl)) <| dv (fun g => (vnil rfl)) <| dv (fun g => (vfld fl76f3 rfl)) <| WD.nil <| WPl.one (fun g => g ++ cel b1 [.pointer (some ⟨p, 0, none⟩)] 32 :: row base c 2 39 (cvs x.log) :: A) ([_]) (fun _ => trivial) (rfl) <| dv (fun g => (vldc pl32 rfl)) <| dv (fun g => (vldc pl32 rfl)) <| dv (fun g => (vldc pl32 rfl)) <| WD.eff rfl <| stc (v := .int _ _) pl3 sz3 rfl rfl rfl <| WL.nil <| WX.br <| WPl.pre (⟨[_], rfl⟩) <| dv (fun g => (vnil rfl)) <| dv (fun g => (vfld fl76f5 rfl)) <| WD.nil <| WPl.one (fun g => g ++ cel b1 [.pointer (some ⟨p, 0, none⟩)] 32 :: row base c 2 39 (cvs x.log) :: A) ([_]) (fun g => good_same _ g) (rfl) <| WD.eff rfl <| stc (v := .int _ _) pl3 sz3 rfl rfl rfl <| WL.nil <| WX.br <| WPl.pre (⟨[_], rfl⟩) <| dv (fun g => (vnil rfl)) <| dv (fun g => (vfld fl76f6 rfl)) <| WD.nil <| WPl.one (fun g => g ++ cel b1 [.pointer (some ⟨p, 0, none⟩)] 32 :: row base c 2 39 (cvs x.log) :: A) ([_]) (fun g => good_same _ g) (rfl) <| WD.eff rfl <| stc (v := .int _ _) pl3 sz3 rfl rfl rfl <| WL.nil <| WX.br <| WPl.bar (⟨[_], rfl⟩) <| dv (fun g => (vnil rfl)) <| dv (fun g => (vfld fl76f8 rfl)) <| WD.eff rfl <| stc (v := .int _ _) pl3 sz3 rfl rfl rfl <| WL.nil <| WX.brT <| WPl.fin (trivial) <| WD.nil <| WX.thenN <| WC.seq <| WC.plan (.one [0, 2, 3, 4, 5, 6] 1 (.one [] 7 (.bar [8, 9, 10] 11 (.done [])))) rfl (by kernel_rfl) <| WPl.one (fun g => g ++ cel p (ncells { x with waited := 0, term := x.term + 1, vote := x.id, role := 1, leader := 0 } base c vv pv) 76 :: cel b1 [.pointer (some ⟨p, 0, none⟩)] 32 :: row base c 2 39 (cvs x.log) :: A) ([]) (fun _ => trivial) (rfl) <| dv (fun g => (vldc pl32 rfl)) <| dv (fun g => (vldc pl32 rfl)) <| dv (fun g => (vnil rfl)) <| dv (fun g => (vfld fl76f0 rfl)) <| dv (fun g => (vldc pl3 rfl)) <| dv (fun g => (vbd (ps := []) (cs := []) bt77 zt77 rfl (by rfl))) <| WD.eff rfl <| mkm (.int .i64) fun b41 => WL.nil <| WX.br <| WPl.one (fun g => g ++ cel p (ncells { x with waited := 0, term := x.term + 1, vote := x.id, role := 1, leader := 0 } base c vv pv) 76 :: cel b1 [.pointer (some ⟨p, 0, none⟩)] 32 :: row base c 2 39 (cvs x.log) :: A) ([_]) (fun g => good_same _ g) (rfl) <| WD.eff rfl <| ins Try.underlying73 Try.underlying3 rfl rfl rfl rfl (.new (by simp)) <| WL.nil <| WX.br <| WPl.bar (⟨[_], rfl⟩) <| dv (fun g => (vmM rfl)) <| dv (fun g => (vnil rfl)) <| dv (fun g => (vfld fl76f10 rfl)) <| WD.eff rfl <| pm (fun _ h => h.pk1) <| stc (v := .map _) pl73 sz73 rfl rfl rfl <| WL.nil <| WX.brT <| WPl.fin (trivial) <| WD.nil <| WX.thenN <| WC.seq <| WC.seq <| WC.region <| sv (vldc pl32 rfl) <| pm (fun _ h => h.pk3.pk1) <| cl (raft_lead_yes (x := runS x) ⟨by show 0 ≤ x.n; omega, by show x.n ≤ 5; omega⟩ hl hc hcm.1 hvn) ct36 rfl fun i48 hi48 => sv (vaS rfl) <| WL.nil <| WX.thenN <| WC.seq <| WC.region <| sv (vldc pl32 rfl) <| sv (vnil rfl) <| sv (vfld fl76f5 rfl) <| sv (vldc pl3 rfl) <| sv (veq rfl rfl) <| WL.nil <| WX.thenN <| ?_
      refine WC.ite rfl (fun h4 => ?_) (fun h4 => ?_)
      · -- then
        exact WC.seq <| WC.region <| sv (vmS rfl) <| sv (vaS rfl) <| WL.nil <| WX.thenN <| WC.ret <| WX.thenR <| WX.ret1M rfl ((i48.ob, i48.oc, i48.ms)) (hi48.1) rfl (fun w h => (hnode_mk2 (leadS_role hvn) hi48.2.1 (hi48.2.2.trans (leadS_others hvn).symm) (h.ix [2, 3, 4, 5, 0, 1])).ix [1, 2, 0, 3] |> fun h => (h.ix [3, 0, 1, 2]).tail)
      · -- else
        exact absurd (leadS_role hvn) h4
theorem raft_tick_ask {w0 : World} {A : List HProp} {p : Nat} {x : Rn} (hx : RInv x) (hr : x.role ≠ 2) (hw : x.waited + 1 ≤ 9223372036854775807) (hi : ¬ (x.waited + 1 < 10 + 3 * x.id ∨ x.term = 1000000000)) (h1 : ¬ x.n < 2) :
    Fun Try.prog w0 15 [.pointer (some ⟨p, 0, none⟩)] (hnode p x :: A) (MR w0 p A (tickS x)) := by
  refine Fun.ex (B := fun i : Option Addr × Nat × Value × Value => cel p (ncells x i.1 i.2.1 i.2.2.1 i.2.2.2) 76 :: row i.1 i.2.1 2 39 (cvs x.log) :: A) (q := fun i => x.log.length ≤ i.2.1) (fun w h => by obtain ⟨i, hi, hO⟩ := hnode_open h; exact ⟨i, hi, hO.pk2.tail⟩) ?_
  rintro ⟨base, c, vv, pv⟩ hc
  dsimp only at hc ⊢
  have hw0 := hx.waited
  have hn := hx.n
  have hid := hx.id
  have hl := hx.log
  have htm := hx.term
  have hcm := hx.commit
  have ht : tickS x = (runS x, (others x).map (askM (runS x))) := by unfold tickS; rw [if_neg hr, if_neg hi, if_neg h1]
  unfold MR
  rw [ht]
  have hvn : ¬ (runS x).n < 2 * ((runS x).voted.length : Int) := by show ¬ x.n < 2 * (1 : Int); omega
  refine Fun.enterM Try.func15 rfl Try.ntmps15 rfl ?_
  refine WC.seq <| WC.region <| bxc (v := .pointer _) (cs := [.pointer _]) rfl rfl fun b1 => sv (vaS rfl) <| WL.nil <| WX.thenN <| WC.seq <| WC.seq <| WC.region <| sv (vldc pl32 rfl) <| sv (vpeqF Try.underlying32 rfl rfl) <| WL.nil <| WX.thenN <| ?_
  refine WC.ff rfl ?_
  refine WC.skip <| WX.thenN <| WC.seq <| WC.seq <| WC.region <| sv (vldc pl32 rfl) <| sv (vnil rfl) <| sv (vfld fl76f5 rfl) <| sv (vldc pl3 rfl) <| sv (veq rfl rfl) <| WL.nil <| WX.thenN <| ?_
  refine WC.ite rfl (fun h2 => ?_) (fun h2 => ?_)
  · -- then
    exact absurd h2 hr
  · -- else
    refine WC.skip <| WX.thenN <| WC.seq <| WC.seq <| WC.region <| sv (vldc pl32 rfl) <| sv (vnil rfl) <| sv (vfld fl76f8 rfl) <| sv (vldc pl3 rfl) <| sv (vadd rfl rfl (by omega)) <| sv (vnil rfl) <| sv (vfld fl76f8 rfl) <| pm (fun _ h => h.pk1) <| stc (v := .int _ _) pl3 sz3 rfl rfl rfl <| WL.nil <| WX.thenN <| ?_
    refine WC.cut0 [(52, .bool (decide (x.waited + 1 < 10 + 3 * x.id ∨ x.term = 1000000000)))] [(1, _)] (cel p (ncells { x with waited := x.waited + 1 } base c vv pv) 76 :: cel b1 [.pointer (some ⟨p, 0, none⟩)] 32 :: row base c 2 39 (cvs x.log) :: A) ⟨rfl, trivial⟩ ?_ fun ρh => ?_
    · -- raft.go:134
      refine WC.draws rfl (by kernel_rfl) <| qv (vldc pl32 rfl) <| qv (vnil rfl) <| qv (vfld fl76f8 rfl) <| qv (vldc pl3 rfl) <| qv (vldc pl32 rfl) <| qv (vnil rfl) <| qv (vfld fl76f0 rfl) <| qv (vldc pl3 rfl) <| qv (vmul rfl rfl (by omega)) <| qv (vadd rfl rfl (by omega)) <| qvs (vlt rfl rfl) (fun q1 => ?_) (fun q1 => ?_)
      ·
        exact qv (vmB rfl) <| qng rfl <| qng rfl <| qng rfl <| qng rfl <| qng rfl <| qv (vpkt rfl) <| WQ.nil <| WX.mid () trivial ⟨bT (by first | omega | simp_all | grind), trivial⟩ ⟨rfl, trivial⟩ (fun _ h => h)
      ·
        exact qv (vmB rfl) <| qvg rfl (vldc pl32 rfl) <| qvg rfl (vnil rfl) <| qvg rfl (vfld fl76f2 rfl) <| qvg rfl (vldc pl3 rfl) <| qvg rfl (veq rfl rfl) <| qv (vpkf rfl) <| WQ.nil <| WX.mid () trivial ⟨bI (by first | omega | simp_all | grind), trivial⟩ ⟨rfl, trivial⟩ (fun _ h => h)
    refine WC.ite rfl (fun h3 => ?_) (fun h3 => ?_)
    · -- then
      exact absurd h3 hi
    · -- else
      refine WC.skip <| WX.thenN <| WC.seq <| WC.region <| sv (vldc pl32 rfl) <| sv (vnil rfl) <| sv (vfld fl76f2 rfl) <| sv (vldc pl3 rfl) <| sv (vadd (a := x.term) rfl rfl (by omega)) <| sv (vnil rfl) <| sv (vfld fl76f2 rfl) <| stc (v := .int _ _) pl3 sz3 rfl rfl rfl <| WL.nil <| WX.thenN <| WC.seq <| WC.plan (.pre [0, 4, 5, 6, 7, 8, 9] (.one [1, 2, 3] 10 (.pre [11, 12] (.one [] 13 (.pre [14, 15] (.one [] 16 (.bar [17, 18] 19 (.done [])))))))) rfl (by kernel_rfl) <| WPl.pre (trivial) <| dv (fun g => (vldc pl32 rfl)) <| dv (fun g => (vldc pl32 rfl)) <| dv (fun g => (vnil rfl)) <| dv (fun g => (vfld fl76f0 rfl)) <| dv (fun g => (vldc pl3 rfl)) <| dv (fun g => (vnil rfl)) <| dv (fun g => (vfld fl76f3 rfl)) <| WD.nil <| WPl.one (fun g => g ++ cel b1 [.pointer (some ⟨p, 0, none⟩)] 32 :: row base c 2 39 (cvs x.log) :: A) ([_]) (fun _ => trivial) (rfl) <| dv (fun g => (vldc pl32 rfl)) <| dv (fun g => (vldc pl32 rfl)) <| dv (fun g => (vldc pl32 rfl)) <| WD.eff rfl <| stc (v := .int _ _) pl3 sz3 rfl rfl rfl <| WL.nil <| WX.br <| WPl.pre (⟨[_], rfl⟩) <| dv (fun g => (vnil rfl)) <| dv (fun g => (vfld fl76f5 rfl)) <| WD.nil <| WPl.one (fun g => g ++ cel b1 [.pointer (some ⟨p, 0, none⟩)] 32 :: row base c 2 39 (cvs x.log) :: A) ([_]) (fun g => good_same _ g) (rfl) <| WD.eff rfl <| stc (v := .int _ _) pl3 sz3 rfl rfl rfl <| WL.nil <| WX.br <| WPl.pre (⟨[_], rfl⟩) <| dv (fun g => (vnil rfl)) <| dv (fun g => (vfld fl76f6 rfl)) <| WD.nil <| WPl.one (fun g => g ++ cel b1 [.pointer (some ⟨p, 0, none⟩)] 32 :: row base c 2 39 (cvs x.log) :: A) ([_]) (fun g => good_same _ g) (rfl) <| WD.eff rfl <| stc (v := .int _ _) pl3 sz3 rfl rfl rfl <| WL.nil <| WX.br <| WPl.bar (⟨[_], rfl⟩) <| dv (fun g => (vnil rfl)) <| dv (fun g => (vfld fl76f8 rfl)) <| WD.eff rfl <| stc (v := .int _ _) pl3 sz3 rfl rfl rfl <| WL.nil <| WX.brT <| WPl.fin (trivial) <| WD.nil <| WX.thenN <| WC.seq <| WC.plan (.one [0, 2, 3, 4, 5, 6] 1 (.one [] 7 (.bar [8, 9, 10] 11 (.done [])))) rfl (by kernel_rfl) <| WPl.one (fun g => g ++ cel p (ncells { x with waited := 0, term := x.term + 1, vote := x.id, role := 1, leader := 0 } base c vv pv) 76 :: cel b1 [.pointer (some ⟨p, 0, none⟩)] 32 :: row base c 2 39 (cvs x.log) :: A) ([]) (fun _ => trivial) (rfl) <| dv (fun g => (vldc pl32 rfl)) <| dv (fun g => (vldc pl32 rfl)) <| dv (fun g => (vnil rfl)) <| dv (fun g => (vfld fl76f0 rfl)) <| dv (fun g => (vldc pl3 rfl)) <| dv (fun g => (vbd (ps := []) (cs := []) bt77 zt77 rfl (by rfl))) <| WD.eff rfl <| mkm (.int .i64) fun b41 => WL.nil <| WX.br <| WPl.one (fun g => g ++ cel p (ncells { x with waited := 0, term := x.term + 1, vote := x.id, role := 1, leader := 0 } base c vv pv) 76 :: cel b1 [.pointer (some ⟨p, 0, none⟩)] 32 :: row base c 2 39 (cvs x.log) :: A) ([_]) (fun g => good_same _ g) (rfl) <| WD.eff rfl <| ins Try.underlying73 Try.underlying3 rfl rfl rfl rfl (.new (by simp)) <| WL.nil <| WX.br <| WPl.bar (⟨[_], rfl⟩) <| dv (fun g => (vmM rfl)) <| dv (fun g => (vnil rfl)) <| dv (fun g => (vfld fl76f10 rfl)) <| WD.eff rfl <| pm (fun _ h => h.pk1) <| stc (v := .map _) pl73 sz73 rfl rfl rfl <| WL.nil <| WX.brT <| WPl.fin (trivial) <| WD.nil <| WX.thenN <| WC.seq <| WC.seq <| WC.region <| sv (vldc pl32 rfl) <| cl (raft_lead_no (x := runS x) ⟨by show 0 ≤ x.n; omega, by show x.n ≤ 5; omega⟩ hvn) ct36 rfl fun _ _ => sv (vaS rfl) <| WL.nil <| WX.thenN <| WC.seq <| WC.region <| sv (vldc pl32 rfl) <| sv (vnil rfl) <| sv (vfld fl76f5 rfl) <| sv (vldc pl3 rfl) <| sv (veq rfl rfl) <| WL.nil <| WX.thenN <| ?_
      refine WC.ite rfl (fun h4 => ?_) (fun h4 => ?_)
      · -- then
        exact absurd h4 (by show ¬ (1 : Int) = 2; decide)
      · -- else
        refine WC.skip <| WX.thenN <| WC.seq <| WC.region <| alz (cs := [.slice none 0 0]) zt43 (by rfl) fun b51 => WL.nil <| WX.thenN <| WC.seq <| WC.seq <| WC.region <| sv (vldc pl32 rfl) <| sv (vfnb rfl) <| WL.nil <| WX.thenN <| WC.block <| ?_
        refine WC.rangeF (bnd := [.pointer (some ⟨p, 0, none⟩)]) (fun k => [cel p (ncells (runS x) base c (.map (some b41)) pv) 76, mp (.int .i64) b41 (vents [x.id]), outC b51 ((oth x.id k).map (askM (runS x))), cel b1 [.pointer (some ⟨p, 0, none⟩)] 32, row base c 2 39 (cvs x.log)]) (0) (x.n.toNat) (fun k v => v = .int .i64 ((k : Int) + 1) ∧ k < x.n.toNat ∧ (k : Int) + 1 ≠ x.id) ct37 rfl (fun w h => (outC_nil h).ix [1, 2, 0]) (fun l Rr hY => raft_others (x := runS x) (C := fun k => mp (.int .i64) b41 (vents [x.id]) :: outC b51 ((oth x.id k).map (askM (runS x))) :: cel b1 [.pointer (some ⟨p, 0, none⟩)] 32 :: row base c 2 39 (cvs x.log) :: Rr) ⟨by show 0 ≤ x.n; omega, by show x.n ≤ 5; omega⟩ (fun k h => by simp only [oth_id (show (k : Int) + 1 = x.id from h)]) (fun k h1 h2 => hY k _ ⟨rfl, h1, h2⟩)) ?_ ?_
        · -- a round
          intro lR XR YR k v hS
          obtain ⟨rfl, hk1, hk2⟩ := hS
          refine WG.region (by kernel_rfl) <| sv (vaI rfl) <| WL.nil <| WX.asg <| ?_
          refine WG.perm (A' := cel p (ncells (runS x) base c (.map (some b41)) pv) 76 :: mp (.int .i64) b41 (vents [x.id]) :: outC b51 ((oth x.id k).map (askM (runS x))) :: cel b1 [.pointer (some ⟨p, 0, none⟩)] 32 :: row base c 2 39 (cvs x.log) :: YR :: A) ?_ (fun _ h => h)
          refine WG.ex (fun w h => outC_open h.pk2) ?_
          rintro ⟨ob, oc, ms⟩ ⟨hms, hmc⟩
          dsimp only at hms hmc ⊢
          have hml : ms.length ≤ 5 := by have := congrArg List.length hms; have h2 := oth_len (id := x.id) (n := k); rw [List.length_map, List.length_map] at this; omega
          have hmvl := mvs_length ms
          refine WG.block <| WG.seq <| WG.region (by kernel_rfl) <| sv (vldc pl32 rfl) <| sv (vmI rfl) <| cl (raft_mail (x := runS x) (base := base) (c := c) (vv := .map (some b41)) (pv := pv)) ct38 rfl fun _ _ => alz (cs := [.int .i64 0, .int .i64 0, .int .i64 0, .int .i64 0, .int .i64 0, .int .i64 0, .int .i64 0, .bool false, .slice none 0 0]) zt28 (by rfl) fun b55 => stA sz28 rfl rfl rfl rfl (hone) <| WL.nil <| WX.gthenM <| WG.seq <| WG.plan (.bar [0, 1, 2, 3, 4, 5, 6, 7, 8, 9, 10, 11, 12] 13 (.bar [14] 15 (.done []))) rfl (by kernel_rfl) <| WPl.bar (trivial) <| dv (fun g => (vldc pl32 rfl)) <| dv (fun g => (vnil rfl)) <| dv (fun g => (vfld fl76f4 rfl)) <| dv (fun g => (vldc pl22 rfl)) <| dv (fun g => (vlen Try.underlying22 rfl)) <| dv (fun g => (vldc pl32 rfl)) <| dv (fun g => (vldc pl32 rfl)) <| dv (fun g => (vnil rfl)) <| dv (fun g => (vfld fl76f4 rfl)) <| dv (fun g => (vldc pl22 rfl)) <| dv (fun g => (vlen Try.underlying22 rfl)) <| dcl (fun g => Fun.quiet (raft_at (x := runS x) (base := base) (c := c) (vv := .map (some b41)) (pv := pv) hl)) ct39 rfl <| dv (fun g => (vfld fl28f4 rfl)) <| WD.eff rfl <| stc (v := .int _ _) pl3 sz3 rfl rfl rfl <| WL.nil <| WX.brT <| WPl.bar (trivial) <| dv (fun g => (vfld fl28f5 rfl)) <| WD.eff rfl <| stc (v := .int _ _) pl3 sz3 rfl rfl rfl <| WL.nil <| WX.brT <| WPl.fin (trivial) <| WD.nil <| WX.gthenM <| WG.region (by kernel_rfl) <| sv (vldc pl43 rfl) <| sv (vldac ag28 sz28 rfl rfl (by decide)) <| pm (fun _ h => h.pk2) <| apA (v := .agg _) (cs := mv ⟨1, x.id, (k : Int) + 1, x.term + 1, x.log.length, atT x.log x.log.length, 0, false, ⟨none, [], 0⟩⟩) Try.underlying43 zt28 rfl (fun _ => rfl) (fun _ => rfl) rfl rfl rfl (by decide) (by decide) (mv_one _) hmvl (by simp only [maxLen]; omega) (by omega) fun _ base67 c67 hc67 =>pm (fun _ h => h.pk2) <| stc (v := .slice _ _ _) pl43 sz43 rfl rfl rfl <| WL.nil <| WX.gblockN <| WX.round (fun w h => ?_)
          have h1 := mrows_snoc (y := ⟨1, x.id, (k : Int) + 1, x.term + 1, x.log.length, atT x.log x.log.length, 0, false, ⟨none, [], 0⟩⟩) ((h.ix [3, 0, 1, 4, 5, 6, 7, 8, 2]).intro_row_nil)
          rw [← mvs_snoc] at h1
          have h2 := outC_mk (l := (oth x.id (k + 1)).map (askM (runS x))) (by rw [oth_snoc hk2, List.map_append, List.map_append, hms]; rfl) (by simp) hc67 h1
          exact (h2.ix [6, 1, 2, 0, 3, 4, 5]).tail
        · -- behind the rounds
          intro DR lR rR
          refine WX.perm (A' := cel p (ncells (runS x) base c (.map (some b41)) pv) 76 :: mp (.int .i64) b41 (vents [x.id]) :: outC b51 ((oth x.id x.n.toNat).map (askM (runS x))) :: cel b1 [.pointer (some ⟨p, 0, none⟩)] 32 :: row base c 2 39 (cvs x.log) :: lp DR lR rR :: A) ?_ (fun _ h => h)
          refine WX.exi (fun w h => outC_open h.pk2) ?_
          rintro ⟨ob, oc, ms⟩ ⟨hms, hmc⟩
          dsimp only at hms hmc ⊢
          exact WX.gblockN <| WX.gthenN <| WG.seq <| WG.region (by kernel_rfl) <| sv (vldc pl43 rfl) <| sv (vaS rfl) <| WL.nil <| WX.gthenM <| WG.ret <| WX.ret1G rfl ((ob, oc, ms)) (⟨hms, hmc⟩) rfl (fun w h => ((hnode_mk1 (x := runS x) rfl hc (h.ix [3, 6, 4, 7, 1, 2, 0, 5])).ix [4, 5, 1, 2, 3, 0]).tail.tail)
theorem raft_tick {w0 : World} {A : List HProp} {p : Nat} {x : Rn} (hx : RInv x) (hw : x.waited + 1 ≤ 9223372036854775807) :
    Fun Try.prog w0 15 [.pointer (some ⟨p, 0, none⟩)] (hnode p x :: A) (MR w0 p A (tickS x)) := by
  by_cases hr : x.role = 2
  · exact raft_tick_lead hx hr
  · by_cases hi : x.waited + 1 < 10 + 3 * x.id ∨ x.term = 1000000000
    · exact raft_tick_idle hx hr hw hi
    · by_cases h1 : x.n < 2
      · exact raft_tick_one hx hr hw hi h1
      · exact raft_tick_ask hx hr hw hi h1
end Go.Proofs.Ytekoilhjlofncaa
