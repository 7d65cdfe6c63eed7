/-
  Layer 19: the other managers, one by one; slices copied; mails fed.
-/
import Derived.Test.YtekoilhjlofncaaRaftSpecA
set_option linter.unusedVariables false
set_option linter.unusedSimpArgs false
set_option maxRecDepth 4000
namespace Go.Proofs.Ytekoilhjlofncaa
open Go.Sl Go.RowKit Go.Raft

theorem raft_others {w0 : World} {p c l : Nat} {base : Option Addr} {vv pv : Value} {x : Rn} {C : Nat → List HProp} (hn : 0 ≤ x.n ∧ x.n ≤ 5) (hs : ∀ k : Nat, (k : Int) + 1 = x.id → C (k + 1) = C k)
    (hY : ∀ k : Nat, k < x.n.toNat → (k : Int) + 1 ≠ x.id → YieldA Try.prog w0 l (.int .i64 ((k : Int) + 1)) (cel p (ncells x base c vv pv) 76 :: C k) (cel p (ncells x base c vv pv) 76 :: C (k + 1))) :
    Fun Try.prog w0 37 [.pointer (some ⟨p, 0, none⟩), .func (.yield l) #[] #[]] (cel p (ncells x base c vv pv) 76 :: C 0)
      (Ret w0 (fun _ : Unit => True) (fun _ => .tuple #[]) (fun _ => cel p (ncells x base c vv pv) 76 :: C x.n.toNat)) := by
  refine Fun.enter Try.func37 rfl Try.ntmps37 rfl ?_
  refine WC.seq <| WC.region <| sv (vaI rfl) <| WL.nil <| WX.thenN <| WC.block <| ?_
  refine WC.loop (ι := Nat) (fun i => [(4, .int .i64 ((i : Int) + 1))]) [(0, .pointer _), (1, .func _ _ _)] (fun i => cel p (ncells x base c vv pv) 76 :: C i) (fun i => i ≤ x.n.toNat) (fun i => x.n.toNat - i) (0) (by omega) ⟨rfl, trivial⟩ ⟨rfl, rfl, trivial⟩ (fun _ h => h) ?_
  intro i hi ρh
  refine WC.seq <| WC.seq <| WC.region <| sv (vmI rfl) <| sv (vmP rfl) <| sv (vnil rfl) <| sv (vfld fl76f1 rfl) <| sv (vldc pl3 rfl) <| sv (vle rfl rfl) <| WL.nil <| WX.thenN <| ?_
  refine WC.ite rfl (fun h1 => ?_) (fun h1 => ?_)
  · -- then
    refine WC.skip <| WX.thenN <| WC.seq <| WC.block <| ?_
    refine WC.cut0 [(24, .bool false)] [(0, .pointer _), (1, .func _ _ _), (4, .int _ _)] (cel p (ncells x base c vv pv) 76 :: C (i + 1)) ⟨rfl, rfl, rfl, trivial⟩ ?_ fun ρh => ?_
    · -- raft.go:58
      refine WC.regionI <| WLI.sv (vmI rfl) <| WLI.sv (vmP rfl) <| WLI.sv (vnil rfl) <| WLI.sv (vfld fl76f0 rfl) <| WLI.sv (vldc pl3 rfl) <| WLI.svs (vne rfl rfl) (fun q1 => ?_) (fun q1 => ?_)
      ·
        exact WLI.sv (vmB rfl) <| WLI.svg rfl (vmF rfl) <| WLI.svg rfl (vmI rfl) <| WLI.yg (v := .int .i64 ((i : Int) + 1)) (l := l) rfl rfl rfl (hY i (by omega) q1) <| WLI.svg rfl (vnot rfl) <| WLI.sv (vpkt rfl) <| WLI.nil <| WX.mid () trivial ⟨rfl, trivial⟩ ⟨rfl, rfl, rfl, trivial⟩ (fun _ h => h)
      ·
        exact WLI.sv (vmB rfl) <| WLI.sng rfl <| WLI.sng rfl <| WLI.sng rfl <| WLI.sng rfl <| WLI.sv (vpkf rfl) <| WLI.nil <| WX.mid () trivial ⟨rfl, trivial⟩ ⟨rfl, rfl, rfl, trivial⟩ (fun w h => by rw [hs i (by omega)]; exact h)
    refine WC.ff rfl ?_
    exact WC.skip <| WX.blockN <| WX.thenN <| WC.region <| sv (vmI rfl) <| sv (vadd rfl rfl (by omega)) <| sv (vaI rfl) <| WL.nil <| WX.again (i + 1) (by omega) (by omega) ⟨rfl, trivial⟩ ⟨rfl, rfl, trivial⟩ (fun _ h => h)
  · -- else
    exact WC.exit <| WX.thenE <| WX.thenE <| WX.blockH <| WX.end0 rfl (()) (trivial) rfl (fun w h => by rw [show x.n.toNat = i by omega]; exact h)
theorem raft_clone {w0 : World} {A : List HProp} {c : Nat} {base : Option Addr} {l : List Cl} (hl : l.length ≤ 1099511627776) [hR : Reads w0 A base (cvs l)] :
    Fun Try.prog w0 33 [.slice base l.length c] A
      (Ret w0 (fun i : Option Addr × Nat => l.length ≤ i.2) (fun i => .slice i.1 l.length i.2) (fun i => row i.1 i.2 2 39 (cvs l) :: A)) := by
  refine Fun.enter Try.func33 rfl Try.ntmps33 rfl ?_
  refine WC.seq <| WC.region <| sv (vaS rfl) <| WL.nil <| WX.thenN <| WC.seq <| WC.seq <| WC.region <| sv (vmS rfl) <| sv (vsnl Try.underlying22 rfl rfl) <| WL.nil <| WX.thenN <| ?_
  refine WC.iteb rfl (fun h1 => ?_) (fun h1 => ?_)
  · -- then
    refine WC.known (p := l = []) (fun w h => ?_) fun hnil => ?_
    · rcases Nat.eq_zero_or_pos l.length with h0 | h0
      · exact List.eq_nil_of_length_eq_zero h0
      · have := rsome (base := base) (vs := cvs l) (by rw [cvs_length]; omega) reads h
        rw [Option.isSome_iff_ne_none] at this
        exact absurd (Option.isNone_iff_eq_none.1 h1) this
    subst hnil
    exact WC.seq <| WC.region <| sv (vaS rfl) <| WL.nil <| WX.thenN <| WC.ret <| WX.thenR <| WX.ret1 rfl ((none, 0)) (by simp) rfl (fun _ h => h.intro_row_nil)
  · -- else
    exact WC.skip <| WX.thenN <| WC.seq <| WC.region <| bslz Try.underlying22 zt39 fun b1 => sv (vmS rfl) <| ap (vs := cvs []) (news := cvs l) rfl Try.underlying22 zt39 rfl rfl rfl rfl (cvs_length l) (cvs_one l) reads (by simp only [maxLen]; omega) (by omega) fun base2 c2 hc2 =>sv (vaS rfl) <| WL.nil <| WX.thenN <| WC.ret <| WX.ret1 rfl ((base2, c2)) (by simpa using hc2) (by show Value.slice base2 (0 + l.length) c2 = _; rw [Nat.zero_add]) (fun _ h => h)
/-! ### What a leader knows of the others -/
def peersC (nx mt : Int → Int) : List (Int × Nat) → HProp
  | [] => emp
  | q :: l => star (cel q.2 [.int .i64 (nx q.1), .int .i64 (mt q.1)] 93) (peersC nx mt l)
def pents (ps : List (Int × Nat)) : List (Value × Value) := ps.map fun q => (.int .i64 q.1, .pointer (some ⟨q.2, 0, none⟩))
theorem pents_at {ps : List (Int × Nat)} {j : Nat} {q : Int × Nat} (h : ps[j]? = some q) : (pents ps)[j]? = some (.int .i64 q.1, .pointer (some ⟨q.2, 0, none⟩)) := by simp [pents, h]
theorem peers_out {w0 w : World} {nx mt : Int → Int} {A : List HProp} : ∀ {ps : List (Int × Nat)} {j : Nat} {q : Int × Nat}, ps[j]? = some q → Own w0 (peersC nx mt ps :: A) w → Own w0 (cel q.2 [.int .i64 (nx q.1), .int .i64 (mt q.1)] 93 :: peersC nx mt (ps.eraseIdx j) :: A) w
  | [], _, _, h, _ => by simp at h
  | y :: l, 0, x, h, H => by
    simp at h; subst h
    exact H.star
  | y :: l, j + 1, x, h, H => by
    have h1 := H.star.pk1
    have h2 := peers_out (ps := l) (j := j) (q := x) (by simpa using h) h1
    exact h2.pk2.pk2.pk1.intro_star.pk1
theorem peersC_congr {nx mt nx' mt' : Int → Int} {ps : List (Int × Nat)} (h : ∀ q ∈ ps, nx' q.1 = nx q.1 ∧ mt' q.1 = mt q.1) : peersC nx' mt' ps = peersC nx mt ps := by
  induction ps with
  | nil => rfl
  | cons y l ih =>
    have h1 := h y (by simp)
    simp only [peersC, h1.1, h1.2, ih fun q hq => h q (by simp [hq])]
theorem peers_in {w0 w : World} {nx mt nx' mt' : Int → Int} {A : List HProp} : ∀ {ps : List (Int × Nat)} {j : Nat} {q : Int × Nat}, ps[j]? = some q → (ps.map Prod.fst).Nodup → (∀ k, k ≠ q.1 → nx' k = nx k ∧ mt' k = mt k) → Own w0 (cel q.2 [.int .i64 (nx' q.1), .int .i64 (mt' q.1)] 93 :: peersC nx mt (ps.eraseIdx j) :: A) w → Own w0 (peersC nx' mt' ps :: A) w
  | [], _, _, h, _, _, _ => by simp at h
  | y :: l, 0, x, h, hn, hc, H => by
    simp at h; subst h
    simp only [List.map_cons, List.nodup_cons] at hn
    have e : peersC nx' mt' l = peersC nx mt l := peersC_congr fun q hq => hc _ fun he => hn.1 (List.mem_map.2 ⟨q, hq, he⟩)
    unfold peersC
    rw [e]
    exact H.intro_star
  | y :: l, j + 1, x, h, hn, hc, H => by
    simp only [List.map_cons, List.nodup_cons] at hn
    have h' : l[j]? = some x := by simpa using h
    have hy : y.1 ≠ x.1 := fun he => hn.1 (List.mem_map.2 ⟨x, List.mem_of_getElem? h', he.symm⟩)
    have e := hc y.1 hy
    have h1 : Own w0 (star (cel y.2 [.int .i64 (nx y.1), .int .i64 (mt y.1)] 93) (peersC nx mt (l.eraseIdx j)) :: cel x.2 [.int .i64 (nx' x.1), .int .i64 (mt' x.1)] 93 :: A) w := H.pk1
    have h2 := peers_in (ps := l) (j := j) (q := x) h' hn.2 hc (h1.star.pk1.pk2)
    unfold peersC
    rw [e.1, e.2]
    exact h2.pk1.intro_star
theorem peers_snoc {w0 w : World} {nx mt : Int → Int} {q : Int × Nat} : ∀ {ps : List (Int × Nat)} {A : List HProp}, Own w0 (cel q.2 [.int .i64 (nx q.1), .int .i64 (mt q.1)] 93 :: peersC nx mt ps :: A) w → Own w0 (peersC nx mt (ps ++ [q]) :: A) w
  | [], A, H => H.intro_star
  | z :: l, A, H => by
    have h1 := H.pk1.star.pk1.pk2
    exact (peers_snoc (ps := l) (h1.ix [0, 1, 2])).ix [1, 0] |>.intro_star
theorem CellC.of_peers {w0 : World} {nx mt : Int → Int} {A : List HProp} {ps : List (Int × Nat)} {j i : Nat} {q : Int × Nat} {v : Value} (hm : peersC nx mt ps ∈ A) (hj : ps[j]? = some q) (hv : [Value.int .i64 (nx q.1), .int .i64 (mt q.1)][i]? = some v) : CellC w0 A (some ⟨q.2, i, none⟩) v := fun w hw => by
  obtain ⟨R, h⟩ := hw.mem hm
  exact CellC.of_cel (List.Mem.head _) hv w (peers_out hj h)
def feedH (x : Rn) (k : Int) (i : Option Addr × Nat) : Mh := ⟨3, x.id, k, x.term, x.nx k - 1, atT x.log (x.nx k - 1), x.commit, false, ⟨i.1, (feedM x k).cells, i.2⟩⟩
theorem feedH_ml (x : Rn) (k : Int) (i : Option Addr × Nat) : (feedH x k i).ml = feedM x k := rfl
theorem raft_feed {w0 : World} {R : List HProp} {p c m j : Nat} {base : Option Addr} {vv : Value} {x : Rn} {ps : List (Int × Nat)} {q : Int × Nat} (hl : x.log.length ≤ 10000) (hc : x.log.length ≤ c) (hk : 1 ≤ x.nx q.1 ∧ x.nx q.1 ≤ (x.log.length : Int) + 1) (hj : ps[j]? = some q) :
    Fun Try.prog w0 60 [.pointer (some ⟨p, 0, none⟩), .int .i64 q.1] (cel p (ncells x base c vv (.map (some m))) 76 :: row base c 2 39 (cvs x.log) :: mp (.int .i64) m (pents ps) :: peersC x.nx x.mt ps :: R)
      (Ret w0 (fun i : Option Addr × Nat => (feedM x q.1).cells.length ≤ i.2) (fun i => .agg (mv (feedH x q.1 i)).toArray) (fun i => row i.1 i.2 2 39 (cvs (feedM x q.1).cells) :: cel p (ncells x base c vv (.map (some m))) 76 :: row base c 2 39 (cvs x.log) :: mp (.int .i64) m (pents ps) :: peersC x.nx x.mt ps :: R)) := by
  obtain ⟨lo, hlo⟩ : ∃ lo : Nat, x.nx q.1 - 1 = (lo : Int) := ⟨(x.nx q.1 - 1).toNat, by omega⟩
  have hcl : (feedM x q.1).cells = (x.log.drop lo).take 8 := by simp [feedM, hlo]
  have hcn : ((x.log.drop lo).take 8).length = (min (x.log.length : Int) ((lo : Int) + 8)).toNat - lo := by rw [List.length_take, List.length_drop]; omega
  have hrd : ∀ {B : List HProp} [Reads w0 B base (cvs x.log)], RdC w0 B (slB base ((lo : Int)).toNat c 2) (cvs ((x.log.drop lo).take 8)) := fun {B} _ => by
    have := (reads (w0 := w0) (A := B) (base := base) (vs := cvs x.log)).slice lo c 2 (((x.log.drop lo).take 8).length * 2) (fun h => by rw [hcn]; omega)
    rw [cvs_drop] at this
    have e : (cvs (x.log.drop lo)).take (((x.log.drop lo).take 8).length * 2) = cvs ((x.log.drop lo).take 8) := by rw [cvs_take, List.length_take, List.take_eq_take_iff.2]; omega
    rw [e] at this
    simpa using this
  refine Fun.enter Try.func60 rfl Try.ntmps60 rfl ?_
  exact WC.seq <| WC.region <| alz (cs := [.int .i64 0, .int .i64 0, .int .i64 0, .int .i64 0, .int .i64 0, .int .i64 0, .int .i64 0, .bool false, .slice none 0 0]) zt28 (by rfl) fun b1 => WL.nil <| WX.thenN <| WC.seq <| WC.region <| sv (vmP rfl) <| sv (vmI rfl) <| cl (raft_mail (x := x) (base := base) (c := c) (vv := vv) (pv := .map (some m))) ct38 rfl fun _ _ => alz (cs := [.int .i64 0, .int .i64 0, .int .i64 0, .int .i64 0, .int .i64 0, .int .i64 0, .int .i64 0, .bool false, .slice none 0 0]) zt28 (by rfl) fun b3 => stA sz28 rfl rfl rfl rfl (hone) <| WL.nil <| WX.thenN <| WC.seq <| WC.region <| sv (vmP rfl) <| sv (vnil rfl) <| sv (vfld fl76f11 rfl) <| sv (vldc pl74 rfl) <| sv (vmI rfl) <| sv (vlk Try.underlying74 Try.underlying3 rfl rfl rfl (pents_at hj)) <| sv (vnil rfl) <| sv (vfld fl93f0 rfl) <| sv (vld pl3 rfl (CellC.of_peers (nx := x.nx) (mt := x.mt) (ps := ps) (by simp) hj rfl)) <| sv (vw (vsub rfl rfl (by omega)) (iv hlo)) <| sv (vfld fl28f4 rfl) <| stc (v := .int _ _) pl3 sz3 rfl rfl rfl <| WL.nil <| WX.thenN <| WC.seq <| WC.region <| sv (vmP rfl) <| sv (vfld fl28f4 rfl) <| sv (vldc pl3 rfl) <| cl (raft_at (x := x) (base := base) (c := c) (vv := vv) (pv := .map (some m)) hl) ct39 rfl fun _ _ => sv (vfld fl28f5 rfl) <| stc (v := .int _ _) pl3 sz3 rfl rfl rfl <| WL.nil <| WX.thenN <| WC.seq <| WC.region <| sv (vmP rfl) <| sv (vnil rfl) <| sv (vfld fl76f7 rfl) <| sv (vldc pl3 rfl) <| sv (vfld fl28f6 rfl) <| stc (v := .int _ _) pl3 sz3 rfl rfl rfl <| WL.nil <| WX.thenN <| WC.seq <| WC.plan (.bar [0, 1, 2, 3, 4, 5, 6, 7, 8, 9, 10, 11, 12, 13, 14, 15] 16 (.bar [17] 18 (.done []))) rfl (by kernel_rfl) <| WPl.bar (trivial) <| dv (fun g => (vmP rfl)) <| dv (fun g => (vnil rfl)) <| dv (fun g => (vfld fl76f4 rfl)) <| dv (fun g => (vldc pl22 rfl)) <| dv (fun g => (vfld fl28f4 rfl)) <| dv (fun g => (vldc pl3 rfl)) <| dv (fun g => (vmP rfl)) <| dv (fun g => (vnil rfl)) <| dv (fun g => (vfld fl76f4 rfl)) <| dv (fun g => (vldc pl22 rfl)) <| dv (fun g => (vlen Try.underlying22 rfl)) <| dv (fun g => (vfld fl28f4 rfl)) <| dv (fun g => (vldc pl3 rfl)) <| dv (fun g => (vadd rfl rfl (by omega))) <| dv (fun g => (vmin rfl rfl)) <| dv (fun g => (vw (v' := .slice (slB base ((lo : Int)).toNat c 2) ((x.log.drop lo).take 8).length (c - ((lo : Int)).toNat)) (vslLH Try.underlying22 sz39 rfl rfl rfl (by omega) (by omega) (by omega)) (by rw [hcn, Int.toNat_natCast]))) <| WD.eff rfl <| cl (raft_clone (hR := ⟨hrd⟩) (by rw [List.length_take]; omega)) ct33 rfl fun i22 hi22 => WL.nil <| WX.brT <| WPl.bar (trivial) <| dv (fun g => (vfld fl28f8 rfl)) <| WD.eff rfl <| pm (fun _ h => h.pk1) <| stc (v := .slice _ _ _) pl22 sz22 rfl rfl rfl <| WL.nil <| WX.brT <| WPl.fin (trivial) <| WD.nil <| WX.thenN <| WC.seq <| WC.region <| sv (vldac ag28 sz28 rfl rfl (by decide)) <| pm (fun _ h => h.pk2) <| stA sz28 rfl rfl rfl rfl (hone) <| WL.nil <| WX.thenN <| WC.ret <| WX.ret1c rfl ag28 sz28 (i22) (by rw [hcl]; exact hi22) rfl rfl (by decide) (by unfold feedH; rw [hcl, hlo]) (fun w h => by rw [hcl]; exact h.tail.tail)
end Go.Proofs.Ytekoilhjlofncaa
