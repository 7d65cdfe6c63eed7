/-
  Layer 19: who leads.
-/
import Derived.Test.YtekoilhjlofncaaRaftSpecD
set_option linter.unusedVariables false
set_option linter.unusedSimpArgs false
set_option maxRecDepth 4000
namespace Go.Proofs.Ytekoilhjlofncaa
open Go.Sl Go.RowKit Go.Raft

def vents (l : List Int) : List (Value × Value) := l.map fun k => (.int .i64 k, .agg #[])
/-- the map of the others -/
def prC (m : Nat) (nx mt : Int → Int) (ks : List Int) : HProp := fun h => ∃ ps : List (Int × Nat), ps.map Prod.fst = ks ∧ star (mp (.int .i64) m (pents ps)) (peersC nx mt ps) h
theorem prC_mk {w0 w : World} {A : List HProp} {m : Nat} {nx mt : Int → Int} {ks : List Int} {ps : List (Int × Nat)} (hk : ps.map Prod.fst = ks) (H : Own w0 (mp (.int .i64) m (pents ps) :: peersC nx mt ps :: A) w) : Own w0 (prC m nx mt ks :: A) w :=
  H.intro_star.head fun _ h => ⟨ps, hk, h⟩
theorem prC_open {w0 w : World} {A : List HProp} {m : Nat} {nx mt : Int → Int} {ks : List Int} (H : Own w0 (prC m nx mt ks :: A) w) : ∃ ps : List (Int × Nat), ps.map Prod.fst = ks ∧ Own w0 (mp (.int .i64) m (pents ps) :: peersC nx mt ps :: A) w := by
  obtain ⟨hb, h, ⟨h1, h2, ⟨ps, hk, a⟩, a2, dd, x⟩, hw⟩ := H
  have h3 : Own w0 (star (mp (.int .i64) m (pents ps)) (peersC nx mt ps) :: A) w := ⟨hb, h, ⟨h1, h2, a, a2, dd, x⟩, hw⟩
  exact ⟨ps, hk, h3.star⟩
/-- where a leader's things stand, and its mails -/
structure LI where
  ob : Option Addr
  oc : Nat
  ms : List Mh
  base : Option Addr
  c : Nat
  m : Nat
  ps : List (Int × Nat)
theorem pents_put {ps : List (Int × Nat)} {k : Int} {b : Nat} (h : k ∉ ps.map Prod.fst) : PutE (pents ps) (.int .i64 k) (.pointer (some ⟨b, 0, none⟩)) (pents (ps ++ [(k, b)])) := by
  have e : pents (ps ++ [(k, b)]) = pents ps ++ [(.int .i64 k, .pointer (some ⟨b, 0, none⟩))] := by simp [pents]
  rw [e]
  refine .new fun q hq he => h ?_
  obtain ⟨r, hr, rfl⟩ := List.mem_map.1 hq
  exact List.mem_map.2 ⟨r, hr, by simpa using he⟩
theorem add_fix {w0 w : World} {A : List HProp} {p c : Nat} {base : Option Addr} {vv pv : Value} {x : Rn} {data : ByteArray} (H : Own w0 (cel p [.int .i64 x.id, .int .i64 x.n, .int .i64 x.term, .int .i64 x.vote, .slice base (x.log.length + 1) c, .int .i64 x.role, .int .i64 x.leader, .int .i64 x.commit, .int .i64 x.waited, .int .i64 x.since, vv, pv] 76 :: row base c 2 39 (cvs x.log ++ [.int .i64 x.term, .string data]) :: A) w) :
    Own w0 (cel p (ncells (addS data x) base c vv pv) 76 :: row base c 2 39 (cvs (addS data x).log) :: A) w := by
  have e1 : (addS data x).log.length = x.log.length + 1 := by simp [addS]
  have e2 : cvs (addS data x).log = cvs x.log ++ [.int .i64 x.term, .string data] := by unfold addS; rw [cvs_append]; rfl
  rw [e2]
  unfold ncells
  rw [e1]
  exact H
theorem cone {a : Int} {s : ByteArray} : ∀ v ∈ [Value.int .i64 a, .string s], v.oneCell' = true := by
  intro v hv
  simp only [List.mem_cons, List.not_mem_nil, or_false] at hv
  rcases hv with rfl | rfl <;> rfl
theorem raft_lead_no {w0 : World} {R : List HProp} {p c m : Nat} {base : Option Addr} {pv : Value} {x : Rn} (hn : 0 ≤ x.n ∧ x.n ≤ 5) (hm : ¬ x.n < 2 * (x.voted.length : Int)) :
    Fun Try.prog w0 36 [.pointer (some ⟨p, 0, none⟩)] (cel p (ncells x base c (.map (some m)) pv) 76 :: mp (.int .i64) m (vents x.voted) :: R)
      (Ret w0 (fun _ : Unit => True) (fun _ => .slice none 0 0) (fun _ => cel p (ncells x base c (.map (some m)) pv) 76 :: mp (.int .i64) m (vents x.voted) :: R)) := by
  have hvl : ((vents x.voted).length : Int) = (x.voted.length : Int) := by simp [vents]
  refine Fun.enterM Try.func36 rfl Try.ntmps36 rfl ?_
  refine WC.seq <| WC.region <| bxc (v := .pointer _) (cs := [.pointer _]) rfl rfl fun b1 => sv (vaS rfl) <| WL.nil <| WX.thenN <| WC.seq <| WC.seq <| WC.draws rfl (by kernel_rfl) <| qv (vldc pl32 rfl) <| qv (vldc pl32 rfl) <| qv (vnil rfl) <| qv (vfld fl76f10 rfl) <| qv (vldc pl73 rfl) <| qv (vlenm Try.underlying73 rfl) <| qcl (Fun.quiet (raft_most (x := x) (base := base) (c := c) (vv := .map (some m)) (pv := pv) hn)) ct61 rfl <| qv (vnot rfl) <| WQ.nil <| WX.thenN <| ?_
  refine WC.iteb rfl (fun h1 => ?_) (fun h1 => ?_)
  · -- then
    exact WC.seq <| WC.region <| sv (vaS rfl) <| WL.nil <| WX.thenN <| WC.ret <| WX.thenR <| WX.ret1M rfl (()) (trivial) rfl (fun _ h => h.tail)
  · -- else
    exact absurd (by simpa [hvl] using h1) hm
theorem raft_lead_yes {w0 : World} {R : List HProp} {p c mV : Nat} {base : Option Addr} {pv : Value} {x : Rn} (hn : 0 ≤ x.n ∧ x.n ≤ 5) (hl : x.log.length ≤ 10000) (hc : x.log.length ≤ c) (h0 : 0 ≤ x.commit) (hm : x.n < 2 * (x.voted.length : Int)) :
    Fun Try.prog w0 36 [.pointer (some ⟨p, 0, none⟩)] (cel p (ncells x base c (.map (some mV)) pv) 76 :: row base c 2 39 (cvs x.log) :: mp (.int .i64) mV (vents x.voted) :: R)
      (Ret w0 (fun i : LI => (i.ms.map Mh.ml = (leadS x).2 ∧ i.ms.length ≤ i.oc) ∧ (leadS x).1.log.length ≤ i.c ∧ i.ps.map Prod.fst = others x) (fun i => .slice i.ob i.ms.length i.oc) (fun i => row i.ob i.oc 9 28 (mvs i.ms) :: mrows i.ms :: cel p (ncells (leadS x).1 i.base i.c (.map (some mV)) (.map (some i.m))) 76 :: row i.base i.c 2 39 (cvs (leadS x).1.log) :: mp (.int .i64) i.m (pents i.ps) :: peersC (leadS x).1.nx (leadS x).1.mt i.ps :: R)) := by
  have hvl : ((vents x.voted).length : Int) = (x.voted.length : Int) := by simp [vents]
  have hll : (leaderS x).log.length = x.log.length := rfl
  refine Fun.enterM Try.func36 rfl Try.ntmps36 rfl ?_
  refine WC.seq <| WC.region <| bxc (v := .pointer _) (cs := [.pointer _]) rfl rfl fun b1 => sv (vaS rfl) <| WL.nil <| WX.thenN <| WC.seq <| WC.seq <| WC.draws rfl (by kernel_rfl) <| qv (vldc pl32 rfl) <| qv (vldc pl32 rfl) <| qv (vnil rfl) <| qv (vfld fl76f10 rfl) <| qv (vldc pl73 rfl) <| qv (vlenm Try.underlying73 rfl) <| qcl (Fun.quiet (raft_most (x := x) (base := base) (c := c) (vv := .map (some mV)) (pv := pv) hn)) ct61 rfl <| qv (vnot rfl) <| WQ.nil <| WX.thenN <| ?_
  refine WC.iteb rfl (fun h1 => ?_) (fun h1 => ?_)
  · -- then
    exact absurd hm (by simpa [hvl] using h1)
  · -- else
    refine WC.perm (A' := cel p (ncells x base c (.map (some mV)) pv) 76 :: cel b1 [.pointer (some ⟨p, 0, none⟩)] 32 :: row base c 2 39 (cvs x.log) :: mp (.int .i64) mV (vents x.voted) :: R) ?_ (fun _ h => h.pk1)
    refine WC.skip <| WX.thenN <| WC.seq <| WC.plan (.pre [0, 2, 3, 4, 5, 6, 7] (.one [1] 8 (.bar [9, 10] 11 (.done [])))) rfl (by kernel_rfl) <| WPl.pre (trivial) <| dv (fun g => (vldc pl32 rfl)) <| dv (fun g => (vldc pl32 rfl)) <| dv (fun g => (vnil rfl)) <| dv (fun g => (vfld fl76f0 rfl)) <| dv (fun g => (vldc pl3 rfl)) <| dv (fun g => (vnil rfl)) <| dv (fun g => (vfld fl76f5 rfl)) <| WD.nil <| WPl.one (fun g => g ++ cel b1 [.pointer (some ⟨p, 0, none⟩)] 32 :: row base c 2 39 (cvs x.log) :: mp (.int .i64) mV (vents x.voted) :: R) ([_]) (fun _ => trivial) (rfl) <| dv (fun g => (vldc pl32 rfl)) <| WD.eff rfl <| stc (v := .int _ _) pl3 sz3 rfl rfl rfl <| WL.nil <| WX.br <| WPl.bar (⟨[_], rfl⟩) <| dv (fun g => (vnil rfl)) <| dv (fun g => (vfld fl76f6 rfl)) <| WD.eff rfl <| stc (v := .int _ _) pl3 sz3 rfl rfl rfl <| WL.nil <| WX.brT <| WPl.fin (trivial) <| WD.nil <| WX.thenN <| WC.seq <| WC.region <| sv (vldc pl32 rfl) <| mkm (.int .i64) fun b13 => sv (vnil rfl) <| sv (vfld fl76f11 rfl) <| pm (fun _ h => h.pk1) <| stc (v := .map _) pl74 sz74 rfl rfl rfl <| WL.nil <| WX.thenN <| WC.seq <| WC.seq <| WC.region <| sv (vldc pl32 rfl) <| sv (vfnb rfl) <| WL.nil <| WX.thenN <| WC.block <| ?_
    refine WC.rangeF (bnd := [.pointer (some ⟨p, 0, none⟩)]) (fun k => [cel p (ncells (leaderS x) base c (.map (some mV)) (.map (some b13))) 76, prC b13 (fun _ => (x.log.length : Int) + 1) (fun _ => 0) (oth x.id k), cel b1 [.pointer (some ⟨p, 0, none⟩)] 32, row base c 2 39 (cvs x.log)]) (0) (x.n.toNat) (fun k v => v = .int .i64 ((k : Int) + 1) ∧ k < x.n.toNat ∧ (k : Int) + 1 ≠ x.id) ct37 rfl (fun w h => ((prC_mk (nx := fun _ => (x.log.length : Int) + 1) (mt := fun _ => 0) (ps := []) rfl (h.pk1.intro_emp.pk1)).ix [4, 1, 0, 2, 3]).tail) (fun l Rr hY => raft_others (x := leaderS x) (C := fun k => prC b13 (fun _ => (x.log.length : Int) + 1) (fun _ => 0) (oth x.id k) :: cel b1 [.pointer (some ⟨p, 0, none⟩)] 32 :: row base c 2 39 (cvs x.log) :: Rr) hn (fun k h => by simp only [oth_id (show (k : Int) + 1 = x.id from h)]) (fun k h1 h2 => hY k _ ⟨rfl, h1, h2⟩)) ?_ ?_
    · -- a round
      intro lR XR YR k v hS
      obtain ⟨rfl, hk1, hk2⟩ := hS
      refine WG.region (by kernel_rfl) <| sv (vaI rfl) <| WL.nil <| WX.asg <| ?_
      refine WG.perm (A' := cel p (ncells (leaderS x) base c (.map (some mV)) (.map (some b13))) 76 :: prC b13 (fun _ => (x.log.length : Int) + 1) (fun _ => 0) (oth x.id k) :: cel b1 [.pointer (some ⟨p, 0, none⟩)] 32 :: row base c 2 39 (cvs x.log) :: YR :: R) ?_ (fun _ h => h)
      refine WG.ex (q := fun ps => ps.map Prod.fst = oth x.id k) (B := fun ps : List (Int × Nat) => cel p (ncells (leaderS x) base c (.map (some mV)) (.map (some b13))) 76 :: mp (.int .i64) b13 (pents ps) :: peersC (fun _ => (x.log.length : Int) + 1) (fun _ => 0) ps :: cel b1 [.pointer (some ⟨p, 0, none⟩)] 32 :: row base c 2 39 (cvs x.log) :: YR :: R) (fun w h => by obtain ⟨i, hi, hO⟩ := prC_open h.pk1; exact ⟨i, hi, hO.ix [2, 0, 1]⟩) ?_
      intro ps hps
      refine WG.block <| WG.plan (.pre [5, 6, 7, 8, 9, 10, 11] (.one [0, 1, 2, 3, 4] 12 (.bar [] 13 (.done [])))) rfl (by kernel_rfl) <| WPl.pre (trivial) <| dv (fun g => (vldc pl32 rfl)) <| dv (fun g => (vnil rfl)) <| dv (fun g => (vfld fl76f4 rfl)) <| dv (fun g => (vldc pl22 rfl)) <| dv (fun g => (vlen Try.underlying22 rfl)) <| dv (fun g => (vadd rfl rfl (by omega))) <| dv (fun g => (vbd (ps := [(0, .int _ _)]) (cs := [_, _]) bt93 zt93 rfl (by rfl))) <| WD.nil <| WPl.one (fun g => g ++ cel p (ncells (leaderS x) base c (.map (some mV)) (.map (some b13))) 76 :: mp (.int .i64) b13 (pents ps) :: peersC (fun _ => (x.log.length : Int) + 1) (fun _ => 0) ps :: cel b1 [.pointer (some ⟨p, 0, none⟩)] 32 :: row base c 2 39 (cvs x.log) :: YR :: R) ([]) (fun _ => trivial) (rfl) <| dv (fun g => (vldc pl32 rfl)) <| dv (fun g => (vnil rfl)) <| dv (fun g => (vfld fl76f11 rfl)) <| dv (fun g => (vldc pl74 rfl)) <| dv (fun g => (vmI rfl)) <| WD.eff rfl <| bxc (v := .agg _) (cs := [.int _ _, .int _ _]) rfl rfl fun b22 => WL.nil <| WX.br <| WPl.bar (⟨[_], rfl⟩) <| WD.eff rfl <| pm (fun _ h => h.pk2) <| mpu Try.underlying74 Try.underlying3 rfl rfl rfl rfl (pents_put (b := b22) (by rw [hps]; intro h; have := (oth_mem.1 h).2.1; omega)) <| WL.nil <| WX.brT <| WPl.fin (trivial) <| WD.nil <| WX.gblockN <| WX.round (fun w h => ?_)
      have h1 := peers_snoc (nx := fun _ => (x.log.length : Int) + 1) (mt := fun _ => 0) (q := ((k : Int) + 1, b22)) (h.ix [1, 3, 0, 2, 4, 5, 6])
      exact (prC_mk (ks := oth x.id (k + 1)) (ps := ps ++ [((k : Int) + 1, b22)]) (by rw [oth_snoc hk2, List.map_append, hps]; rfl) h1.pk1).pk1
    · -- behind the rounds
      intro DR lR rR
      refine WX.perm (A' := cel p (ncells (leaderS x) base c (.map (some mV)) (.map (some b13))) 76 :: prC b13 (fun _ => (x.log.length : Int) + 1) (fun _ => 0) (oth x.id x.n.toNat) :: cel b1 [.pointer (some ⟨p, 0, none⟩)] 32 :: row base c 2 39 (cvs x.log) :: lp DR lR rR :: R) ?_ (fun _ h => h)
      refine WX.exi (q := fun ps => ps.map Prod.fst = oth x.id x.n.toNat) (B := fun ps : List (Int × Nat) => row base c 2 39 (cvs x.log) :: cel p (ncells (leaderS x) base c (.map (some mV)) (.map (some b13))) 76 :: mp (.int .i64) b13 (pents ps) :: peersC (fun _ => (x.log.length : Int) + 1) (fun _ => 0) ps :: cel b1 [.pointer (some ⟨p, 0, none⟩)] 32 :: lp DR lR rR :: R) (fun w h => by obtain ⟨i, hi, hO⟩ := prC_open h.pk1; exact ⟨i, hi, hO.ix [4, 2, 0, 1, 3]⟩) ?_
      intro ps hps
      refine WX.gblockN <| WX.gthenN <| WG.seq <| WG.seq <| WG.region (by kernel_rfl) <| sv (vldc pl32 rfl) <| sv (vnil rfl) <| sv (vfld fl76f4 rfl) <| sv (vldc pl22 rfl) <| sv (vlen Try.underlying22 rfl) <| sv (vlt rfl rfl) <| WL.nil <| WX.gthenM <| ?_
      refine WG.ite rfl (fun h2 => ?_) (fun h2 => ?_)
      · -- then
        have hls : leadS x = feedAllS (countS (addS ByteArray.empty (leaderS x))) := by unfold leadS; rw [if_pos hm, if_pos (by omega)]
        have hyl : (addS ByteArray.empty (leaderS x)).log.length = x.log.length + 1 := by simp [addS, leaderS]
        · -- a
          exact WG.plan (.pre [5, 6, 7, 8, 9] (.one [0, 1, 2, 3, 4] 10 (.one [] 11 (.bar [12, 13] 14 (.done []))))) rfl (by kernel_rfl) <| WPl.pre (trivial) <| dv (fun g => (vldc pl32 rfl)) <| dv (fun g => (vnil rfl)) <| dv (fun g => (vfld fl76f2 rfl)) <| dv (fun g => (vldc pl3 rfl)) <| dv (fun g => (vbd (ps := [(0, .int _ _)]) (cs := [_, _]) bt39 zt39 rfl (by rfl))) <| WD.nil <| WPl.one (fun g => g ++ cel p (ncells (leaderS x) base c (.map (some mV)) (.map (some b13))) 76 :: mp (.int .i64) b13 (pents ps) :: peersC (fun _ => (x.log.length : Int) + 1) (fun _ => 0) ps :: cel b1 [.pointer (some ⟨p, 0, none⟩)] 32 :: lp DR lR rR :: R) ([_]) (fun _ => trivial) (rfl) <| dv (fun g => (vldc pl32 rfl)) <| dv (fun g => (vldc pl32 rfl)) <| dv (fun g => (vnil rfl)) <| dv (fun g => (vfld fl76f4 rfl)) <| dv (fun g => (vldc pl22 rfl)) <| WD.eff rfl <| bslA (v := .agg _) (cs := [.int .i64 x.term, .string ByteArray.empty]) Try.underlying22 zt39 rfl rfl rfl (by decide) (by decide) fun b32 =>WL.nil <| WX.br <| WPl.one (fun g => g ++ cel p (ncells (leaderS x) base c (.map (some mV)) (.map (some b13))) 76 :: mp (.int .i64) b13 (pents ps) :: peersC (fun _ => (x.log.length : Int) + 1) (fun _ => 0) ps :: cel b1 [.pointer (some ⟨p, 0, none⟩)] 32 :: lp DR lR rR :: R) ([_, _]) (fun g => good_same _ g) (rfl) <| WD.eff rfl <| pm (fun _ h => h.pk1) <| ap (news := [.int .i64 x.term, .string ByteArray.empty]) rfl Try.underlying22 zt39 rfl rfl rfl (cvs_length _) rfl cone (RdC.of_cel (e := 39) (ws := [.int .i64 x.term, .string ByteArray.empty]) 0 (by simp) (by simp)) (by simp only [maxLen]; omega) (by omega) fun base33 c33 hc33 =>WL.nil <| WX.br <| WPl.bar (⟨[_, _], rfl⟩) <| dv (fun g => (vnil rfl)) <| dv (fun g => (vfld fl76f4 rfl)) <| WD.eff rfl <| pm (fun _ h => h.pk2) <| stc (v := .slice _ _ _) pl22 sz22 rfl rfl rfl <| WL.nil <| WX.brT <| WPl.fin (trivial) <| WD.nil <| WX.gthenM <| WG.seq <| WG.region (by kernel_rfl) <| sv (vldc pl32 rfl) <| pm (fun _ h => add_fix (x := leaderS x) (data := ByteArray.empty) h.pk4.pk4.pk3.pk3) <| cl (raft_count (x := addS ByteArray.empty (leaderS x)) hn (by omega) h0 hps) ct52 rfl fun _ _ => WL.nil <| WX.gthenM <| WG.seq <| WG.region (by kernel_rfl) <| sv (vldc pl32 rfl) <| cl (raft_feedAll (x := countS (addS ByteArray.empty (leaderS x))) hn (by show (addS ByteArray.empty (leaderS x)).log.length ≤ 10000; omega) (by show (addS ByteArray.empty (leaderS x)).log.length ≤ c33; omega) (fun k _ => by show 1 ≤ (x.log.length : Int) + 1 ∧ (x.log.length : Int) + 1 ≤ ((addS ByteArray.empty (leaderS x)).log.length : Int) + 1; omega) hps) ct35 rfl fun i38 hi38 => sv (vaS rfl) <| WL.nil <| WX.gthenM <| WG.ret <| WX.ret1G rfl (⟨i38.1, i38.2.1, i38.2.2, base33, c33, b13, ps⟩) (by rw [hls]; exact ⟨hi38, by show (addS ByteArray.empty (leaderS x)).log.length ≤ c33; omega, hps⟩) rfl (fun w h => by rw [hls]; exact (h.ix [6, 7, 8, 0, 1, 2, 3, 4, 5]).tail.tail)
      · -- else
        have hls : leadS x = feedAllS (countS (leaderS x)) := by unfold leadS; rw [if_pos hm, if_neg (by omega)]
        · -- b
          exact WG.skip <| WX.gthenM <| WG.seq <| WG.region (by kernel_rfl) <| sv (vldc pl32 rfl) <| pm (fun _ h => h.pk1) <| cl (raft_count (x := leaderS x) hn hl h0 hps) ct52 rfl fun _ _ => WL.nil <| WX.gthenM <| WG.seq <| WG.region (by kernel_rfl) <| sv (vldc pl32 rfl) <| cl (raft_feedAll (x := countS (leaderS x)) hn hl hc (fun k _ => by show 1 ≤ (x.log.length : Int) + 1 ∧ (x.log.length : Int) + 1 ≤ (x.log.length : Int) + 1; omega) hps) ct35 rfl fun i38 hi38 => sv (vaS rfl) <| WL.nil <| WX.gthenM <| WG.ret <| WX.ret1G rfl (⟨i38.1, i38.2.1, i38.2.2, base, c, b13, ps⟩) (by rw [hls]; exact ⟨hi38, hc, hps⟩) rfl (fun w h => by rw [hls]; exact (h.ix [6, 7, 0, 1, 2, 3, 4, 5]).tail)
end Go.Proofs.Ytekoilhjlofncaa
