/-
  Layer 19: mails to all.
-/
import Derived.Test.YtekoilhjlofncaaRaftSpecB
set_option linter.unusedVariables false
set_option linter.unusedSimpArgs false
set_option maxRecDepth 4000
namespace Go.Proofs.Ytekoilhjlofncaa
open Go.Sl Go.RowKit Go.Raft

def mvs (l : List Mh) : List Value := l.flatMap mv
theorem mvs_length (l : List Mh) : (mvs l).length = l.length * 9 := flat_len (fun _ _ => rfl)
theorem mvs_snoc (l : List Mh) (m : Mh) : mvs (l ++ [m]) = mvs l ++ mv m := by simp [mvs]
/-- the arrays of the mails' cells -/
def mrows : List Mh → HProp
  | [] => emp
  | m :: l => star (row m.cs.base m.cs.cap 2 39 (cvs m.cs.xs)) (mrows l)
theorem mrows_snoc {w0 w : World} {y : Mh} : ∀ {l : List Mh} {A : List HProp}, Own w0 (row y.cs.base y.cs.cap 2 39 (cvs y.cs.xs) :: mrows l :: A) w → Own w0 (mrows (l ++ [y]) :: A) w
  | [], A, H => H.intro_star
  | z :: l, A, H => by
    have h1 := H.pk1.star.pk1.pk2
    exact ((mrows_snoc (l := l) (h1.ix [0, 1, 2])).ix [1, 0]).intro_star
/-- a variable with mails -/
def outC (b : Nat) (l : List Ml) : HProp := fun h => ∃ base c ms, (ms.map Mh.ml = l ∧ ms.length ≤ c) ∧ star (mrows ms) (star (cel b [.slice base ms.length c] 43) (row base c 9 28 (mvs ms))) h
theorem outC_mk {w0 w : World} {A : List HProp} {b n c : Nat} {base : Option Addr} {ms : List Mh} {l : List Ml} (hl : ms.map Mh.ml = l) (hn : n = ms.length) (hc : n ≤ c) (H : Own w0 (mrows ms :: cel b [.slice base n c] 43 :: row base c 9 28 (mvs ms) :: A) w) : Own w0 (outC b l :: A) w := by
  subst hn
  exact (H.pk2.pk2.intro_star.pk1.intro_star).head fun _ h => ⟨base, c, ms, ⟨hl, hc⟩, h⟩
theorem outC_nil {w0 w : World} {A : List HProp} {b : Nat} (H : Own w0 (cel b [.slice none 0 0] 43 :: A) w) : Own w0 (outC b [] :: A) w :=
  outC_mk (ms := []) (n := 0) (c := 0) (base := none) rfl rfl (Nat.le_refl _) ((H.intro_row_nil.pk1).intro_emp)
theorem outC_open {w0 w : World} {A : List HProp} {b : Nat} {l : List Ml} (H : Own w0 (outC b l :: A) w) : ∃ i : Option Addr × Nat × List Mh, (i.2.2.map Mh.ml = l ∧ i.2.2.length ≤ i.2.1) ∧ Own w0 (cel b [.slice i.1 i.2.2.length i.2.1] 43 :: row i.1 i.2.1 9 28 (mvs i.2.2) :: mrows i.2.2 :: A) w := by
  obtain ⟨hb, h, ⟨h1, h2, ⟨base, c, ms, hl, a⟩, a2, dd, x⟩, hw⟩ := H
  have h3 : Own w0 (star (mrows ms) (star (cel b [.slice base ms.length c] 43) (row base c 9 28 (mvs ms))) :: A) w := ⟨hb, h, ⟨h1, h2, a, a2, dd, x⟩, hw⟩
  exact ⟨(base, c, ms), hl, h3.star.pk1.star⟩
theorem oth_id {id : Int} {k : Nat} (h : (k : Int) + 1 = id) : oth id (k + 1) = oth id k := by simp [oth, h]
theorem oth_snoc {id : Int} {k : Nat} (h : (k : Int) + 1 ≠ id) : oth id (k + 1) = oth id k ++ [(k : Int) + 1] := by simp [oth, h]
theorem peer_at {x : Rn} {ps : List (Int × Nat)} (hps : ps.map Prod.fst = others x) {k : Int} (hk : k ∈ others x) : ∃ (j b : Nat), ps[j]? = some (k, b) := by
  rw [← hps] at hk
  obtain ⟨q, hq, rfl⟩ := List.mem_map.1 hk
  obtain ⟨j, hj⟩ := List.mem_iff_getElem?.1 hq
  exact ⟨j, q.2, hj⟩
theorem raft_feedAll {w0 : World} {R : List HProp} {p c m : Nat} {base : Option Addr} {vv : Value} {x : Rn} {ps : List (Int × Nat)} (hn : 0 ≤ x.n ∧ x.n ≤ 5) (hl : x.log.length ≤ 10000) (hc : x.log.length ≤ c) (hk : ∀ k ∈ others x, 1 ≤ x.nx k ∧ x.nx k ≤ (x.log.length : Int) + 1) (hps : ps.map Prod.fst = others x) :
    Fun Try.prog w0 35 [.pointer (some ⟨p, 0, none⟩)] (cel p (ncells x base c vv (.map (some m))) 76 :: row base c 2 39 (cvs x.log) :: mp (.int .i64) m (pents ps) :: peersC x.nx x.mt ps :: R)
      (Ret w0 (fun i : Option Addr × Nat × List Mh => i.2.2.map Mh.ml = (feedAllS x).2 ∧ i.2.2.length ≤ i.2.1) (fun i => .slice i.1 i.2.2.length i.2.1) (fun i => row i.1 i.2.1 9 28 (mvs i.2.2) :: mrows i.2.2 :: cel p (ncells (feedAllS x).1 base c vv (.map (some m))) 76 :: row base c 2 39 (cvs x.log) :: mp (.int .i64) m (pents ps) :: peersC x.nx x.mt ps :: R)) := by
  refine Fun.enterM Try.func35 rfl Try.ntmps35 rfl ?_
  refine WC.seq <| WC.region <| bxc (v := .pointer _) (cs := [.pointer _]) rfl rfl fun b1 => sv (vaS rfl) <| WL.nil <| WX.thenN <| WC.seq <| WC.region <| sv (vldc pl32 rfl) <| sv (vnil rfl) <| sv (vfld fl76f9 rfl) <| pm (fun _ h => h.pk1) <| stc (v := .int _ _) pl3 sz3 rfl rfl rfl <| WL.nil <| WX.thenN <| WC.seq <| WC.region <| alz (cs := [.slice none 0 0]) zt43 (by rfl) fun b4 => WL.nil <| WX.thenN <| WC.seq <| WC.seq <| WC.region <| sv (vldc pl32 rfl) <| sv (vfnb rfl) <| WL.nil <| WX.thenN <| WC.block <| ?_
  refine WC.rangeF (bnd := [.pointer (some ⟨p, 0, none⟩)]) (fun k => [cel p (ncells { x with since := 0 } base c vv (.map (some m))) 76, row base c 2 39 (cvs x.log), mp (.int .i64) m (pents ps), peersC x.nx x.mt ps, outC b4 ((oth x.id k).map (feedM { x with since := 0 })), cel b1 [.pointer (some ⟨p, 0, none⟩)] 32]) (0) (x.n.toNat) (fun k v => v = .int .i64 ((k : Int) + 1) ∧ k < x.n.toNat ∧ (k : Int) + 1 ≠ x.id) ct37 rfl (fun w h => (outC_nil h).ix [1, 3, 4, 5, 0, 2]) (fun l Rr hY => raft_others (x := { x with since := 0 }) (C := fun k => row base c 2 39 (cvs x.log) :: mp (.int .i64) m (pents ps) :: peersC x.nx x.mt ps :: outC b4 ((oth x.id k).map (feedM { x with since := 0 })) :: cel b1 [.pointer (some ⟨p, 0, none⟩)] 32 :: Rr) hn (fun k h => by simp only [oth_id h]) (fun k h1 h2 => hY k _ ⟨rfl, h1, h2⟩)) ?_ ?_
  · -- a round
    intro lR XR YR k v hS
    obtain ⟨rfl, hk1, hk2⟩ := hS
    refine WG.region (by kernel_rfl) <| sv (vaI rfl) <| WL.nil <| WX.asg <| ?_
    refine WG.perm (A' := cel p (ncells { x with since := 0 } base c vv (.map (some m))) 76 :: row base c 2 39 (cvs x.log) :: mp (.int .i64) m (pents ps) :: peersC x.nx x.mt ps :: outC b4 ((oth x.id k).map (feedM { x with since := 0 })) :: cel b1 [.pointer (some ⟨p, 0, none⟩)] 32 :: YR :: R) ?_ (fun _ h => h)
    have hko : (k : Int) + 1 ∈ others x := oth_mem.2 ⟨by omega, by omega, hk2⟩
    obtain ⟨j, pb, hj⟩ := peer_at hps hko
    have hkn := hk _ hko
    refine WG.ex (B := fun i : Option Addr × Nat × List Mh => cel p (ncells { x with since := 0 } base c vv (.map (some m))) 76 :: row base c 2 39 (cvs x.log) :: mp (.int .i64) m (pents ps) :: peersC x.nx x.mt ps :: row i.1 i.2.1 9 28 (mvs i.2.2) :: cel b4 [.slice i.1 i.2.2.length i.2.1] 43 :: mrows i.2.2 :: cel b1 [.pointer (some ⟨p, 0, none⟩)] 32 :: YR :: R) (fun w h => by obtain ⟨i, hi, hO⟩ := outC_open h.pk4; exact ⟨i, hi, hO.ix [3, 4, 5, 6, 1, 0, 2]⟩) ?_
    rintro ⟨ob, oc, ms⟩ ⟨hms, hmc⟩
    dsimp only at hms hmc ⊢
    have hml : ms.length ≤ 5 := by have := congrArg List.length hms; have h2 := oth_len (id := x.id) (n := k); rw [List.length_map, List.length_map] at this; omega
    have hmvl := mvs_length ms
    refine WG.block <| WG.plan (.pre [1, 2] (.one [0] 3 (.one [] 4 (.bar [] 5 (.bar [] 6 (.done [])))))) rfl (by kernel_rfl) <| WPl.pre (trivial) <| dv (fun g => (vldc pl32 rfl)) <| dv (fun g => (vmI rfl)) <| WD.nil <| WPl.one (fun g => g ++ cel p (ncells { x with since := 0 } base c vv (.map (some m))) 76 :: row base c 2 39 (cvs x.log) :: mp (.int .i64) m (pents ps) :: peersC x.nx x.mt ps :: row ob oc 9 28 (mvs ms) :: cel b4 [.slice ob ms.length oc] 43 :: mrows ms :: cel b1 [.pointer (some ⟨p, 0, none⟩)] 32 :: YR :: R) ([]) (fun _ => trivial) (rfl) <| dv (fun g => (vldc pl43 rfl)) <| WD.eff rfl <| cl (raft_feed (x := { x with since := 0 }) (q := ((k : Int) + 1, pb)) hl hc hkn hj) ct60 rfl fun i8 hi8 => WL.nil <| WX.br <| WPl.one (fun g => g ++ cel p (ncells { x with since := 0 } base c vv (.map (some m))) 76 :: row base c 2 39 (cvs x.log) :: mp (.int .i64) m (pents ps) :: peersC x.nx x.mt ps :: row ob oc 9 28 (mvs ms) :: cel b4 [.slice ob ms.length oc] 43 :: mrows ms :: cel b1 [.pointer (some ⟨p, 0, none⟩)] 32 :: YR :: R) ([_]) (fun g => good_same _ g) (rfl) <| WD.eff rfl <| bslA (v := .agg _) (cs := mv (feedH { x with since := 0 } ((k : Int) + 1) i8)) Try.underlying43 zt28 rfl rfl rfl (by decide) (by decide) fun b9 =>WL.nil <| WX.br <| WPl.bar (⟨[_, _], rfl⟩) <| WD.eff rfl <| pm (fun _ h => h.pk6) <| ap (news := mv (feedH { x with since := 0 } ((k : Int) + 1) i8)) rfl Try.underlying43 zt28 rfl rfl rfl hmvl rfl (mv_one _) (RdC.of_cel (e := 28) (ws := mv (feedH { x with since := 0 } ((k : Int) + 1) i8)) 0 (by simp) (by simp)) (by simp only [maxLen]; omega) (by omega) fun base10 c10 hc10 =>WL.nil <| WX.brT <| WPl.bar (trivial) <| WD.eff rfl <| pm (fun _ h => h.pk7) <| stc (v := .slice _ _ _) pl43 sz43 rfl rfl rfl <| WL.nil <| WX.brT <| WPl.fin (trivial) <| WD.nil <| WX.gblockN <| WX.round (fun w h => ?_)
    have h1 := mrows_snoc (y := feedH { x with since := 0 } ((k : Int) + 1) i8) (h.ix [3, 8, 0, 1, 4, 5, 6, 7, 9, 2])
    rw [← mvs_snoc] at h1
    have h2 := outC_mk (l := (oth x.id (k + 1)).map (feedM { x with since := 0 })) (by rw [oth_snoc hk2, List.map_append, List.map_append, hms]; rfl) (by simp) hc10 h1
    exact (h2.ix [6, 1, 2, 3, 4, 0, 5]).tail
  · -- behind the rounds
    intro DR lR rR
    refine WX.perm (A' := cel p (ncells { x with since := 0 } base c vv (.map (some m))) 76 :: row base c 2 39 (cvs x.log) :: mp (.int .i64) m (pents ps) :: peersC x.nx x.mt ps :: outC b4 ((oth x.id x.n.toNat).map (feedM { x with since := 0 })) :: cel b1 [.pointer (some ⟨p, 0, none⟩)] 32 :: lp DR lR rR :: R) ?_ (fun _ h => h)
    refine WX.exi (fun w h => outC_open h.pk4) ?_
    rintro ⟨ob, oc, ms⟩ ⟨hms, hmc⟩
    dsimp only at hms hmc ⊢
    exact WX.gblockN <| WX.gthenN <| WG.seq <| WG.region (by kernel_rfl) <| sv (vldc pl43 rfl) <| sv (vaS rfl) <| WL.nil <| WX.gthenM <| WG.ret <| WX.ret1G rfl ((ob, oc, ms)) (⟨hms, hmc⟩) rfl (fun w h => (h.ix [0, 7, 8, 1, 2, 3, 4, 5, 6]).tail.tail)
end Go.Proofs.Ytekoilhjlofncaa
