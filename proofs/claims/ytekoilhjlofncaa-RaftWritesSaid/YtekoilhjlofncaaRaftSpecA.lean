/-
  Layer 19: a node as a chunk of memory; small functions.
-/
import Derived.Test.YtekoilhjlofncaaRaftPure
import Derived.Test.YtekoilhjlofncaaBase
set_option linter.unusedVariables false
set_option linter.unusedSimpArgs false
set_option maxRecDepth 4000
namespace Go.Proofs.Ytekoilhjlofncaa
open Go.Sl Go.RowKit Go.Raft

def cv (c : Cl) : List Value := [.int .i64 c.term, .string c.data]
def cvs (l : List Cl) : List Value := l.flatMap cv
theorem cvs_length (l : List Cl) : (cvs l).length = l.length * 2 := flat_len (fun _ _ => rfl)
theorem cvs_at {l : List Cl} {i k : Nat} {c : Cl} (h : l[i]? = some c) (hk : k < 2) : (cvs l)[i * 2 + k]? = (cv c)[k]? := by
  have hi := (List.getElem?_eq_some_iff.1 h).1
  have := flat_at (f := cv) (s := 2) (l := l) (i := i) (k := k) (fun _ _ => rfl) hi hk
  rw [(List.getElem?_eq_some_iff.1 h).2] at this
  exact this
theorem cvs_take2 {l : List Cl} {i : Nat} {c : Cl} (h : l[i]? = some c) : ((cvs l).drop (i * 2)).take 2 = cv c := by
  have hi := (List.getElem?_eq_some_iff.1 h).1
  have := flat_take (f := cv) (s := 2) (l := l) (i := i) (fun _ _ => rfl) hi
  rw [(List.getElem?_eq_some_iff.1 h).2] at this
  exact this
theorem cvs_append (l m : List Cl) : cvs (l ++ m) = cvs l ++ cvs m := by simp [cvs]
theorem cvs_one (l : List Cl) : ∀ v ∈ cvs l, v.oneCell' = true := by
  intro v hv
  obtain ⟨c, _, hc⟩ := List.mem_flatMap.1 hv
  simp only [cv, List.mem_cons, List.not_mem_nil, or_false] at hc
  rcases hc with rfl | rfl <;> rfl
theorem cvs_drop {l : List Cl} (i : Nat) : (cvs l).drop (i * 2) = cvs (l.drop i) := by
  by_cases hi : i ≤ l.length
  · have h1 : cvs l = cvs (l.take i) ++ cvs (l.drop i) := by rw [← cvs_append, List.take_append_drop]
    rw [h1, List.drop_append_of_le_length (by rw [cvs_length, List.length_take]; omega), List.drop_eq_nil_of_le (by rw [cvs_length, List.length_take]; omega), List.nil_append]
  · rw [List.drop_eq_nil_of_le (by rw [cvs_length]; omega), List.drop_eq_nil_of_le (by omega)]; rfl
theorem cvs_take {l : List Cl} (i : Nat) : (cvs l).take (i * 2) = cvs (l.take i) := by
  by_cases hi : i ≤ l.length
  · have h1 : cvs l = cvs (l.take i) ++ cvs (l.drop i) := by rw [← cvs_append, List.take_append_drop]
    rw [h1, List.take_left' (by rw [cvs_length, List.length_take]; omega)]
  · rw [List.take_of_length_le (by rw [cvs_length]; omega), List.take_of_length_le (by omega)]
structure Mh where
  kind : Int
  fr : Int
  to_ : Int
  term : Int
  index : Int
  prev : Int
  commit : Int
  ok : Bool
  cs : Sla Cl
def Mh.ml (m : Mh) : Ml := ⟨m.kind, m.fr, m.to_, m.term, m.index, m.prev, m.commit, m.ok, m.cs.xs⟩
abbrev mv (m : Mh) : List Value := [.int .i64 m.kind, .int .i64 m.fr, .int .i64 m.to_, .int .i64 m.term, .int .i64 m.index, .int .i64 m.prev, .int .i64 m.commit, .bool m.ok, .slice m.cs.base m.cs.xs.length m.cs.cap]
abbrev ncells (x : Rn) (base : Option Addr) (c : Nat) (vv pv : Value) : List Value := [.int .i64 x.id, .int .i64 x.n, .int .i64 x.term, .int .i64 x.vote, .slice base x.log.length c, .int .i64 x.role, .int .i64 x.leader, .int .i64 x.commit, .int .i64 x.waited, .int .i64 x.since, vv, pv]
theorem rsome {w0 w : World} {A : List HProp} {base : Option Addr} {vs : List Value} (hp : 0 < vs.length) (hR : RdC w0 A base vs) (h : Own w0 A w) : base.isSome = true := by
  obtain ⟨a, rfl, _⟩ := hR w h 0 vs[0] (List.getElem?_eq_getElem hp)
  rfl
theorem raft_at {w0 : World} {A : List HProp} {p c : Nat} {base : Option Addr} {vv pv : Value} {x : Rn} {q : Int} (hl : x.log.length ≤ 10000) [hc : CelAt A p (ncells x base c vv pv) 76] [hR : Reads w0 A base (cvs x.log)] :
    Fun Try.prog w0 39 [.pointer (some ⟨p, 0, none⟩), .int .i64 q] A (Ret w0 (fun _ : Unit => True) (fun _ => .int .i64 (atT x.log q)) (fun _ => A)) := by
  refine Fun.enter Try.func39 rfl Try.ntmps39 rfl ?_
  refine WC.seq <| WC.region <| sv (vaI rfl) <| WL.nil <| WX.thenN <| WC.seq <| ?_
  refine WC.cut0 [(15, .bool (decide (q < 1 ∨ (x.log.length : Int) < q)))] [(0, .pointer _), (1, .int _ _)] (A) ⟨rfl, rfl, trivial⟩ ?_ fun ρh => ?_
  · -- raft.go:49
    refine WC.region <| sv (vmI rfl) <| svs (vlt rfl rfl) (fun q1 => ?_) (fun q1 => ?_)
    ·
      exact sv (vmB rfl) <| sng rfl <| sng rfl <| sng rfl <| sng rfl <| sng rfl <| sng rfl <| sng rfl <| sv (vpkt rfl) <| WL.nil <| WX.mid () trivial ⟨bT (by first | omega | simp_all | grind), trivial⟩ ⟨rfl, rfl, trivial⟩ (fun _ h => h)
    ·
      exact sv (vmB rfl) <| svg rfl (vmI rfl) <| svg rfl (vmP rfl) <| svg rfl (vnil rfl) <| svg rfl (vfld fl76f4 rfl) <| svg rfl (vldc pl22 rfl) <| svg rfl (vlen Try.underlying22 rfl) <| svg rfl (vgt rfl rfl) <| sv (vpkf rfl) <| WL.nil <| WX.mid () trivial ⟨bI (by first | omega | simp_all | grind), trivial⟩ ⟨rfl, rfl, trivial⟩ (fun _ h => h)
  refine WC.ite rfl (fun h1 => ?_) (fun h1 => ?_)
  · -- then
    exact WC.seq <| WC.region <| sv (vaI rfl) <| WL.nil <| WX.thenN <| WC.ret <| WX.thenR <| WX.ret1 rfl (()) (trivial) (iv (atT_zero h1).symm) (fun _ h => h)
  · -- else
    obtain ⟨k, rfl⟩ : ∃ k : Nat, q = (k : Int) + 1 := ⟨(q - 1).toNat, by omega⟩
    have hk : k < x.log.length := by omega
    have hkc : x.log[k]? = some x.log[k] := List.getElem?_eq_getElem hk
    have hkz : ((k : Int) + 1 - 1).toNat = k := by omega
    have hlc := cvs_length x.log
    have hpos : 0 < (cvs x.log).length := by omega
    have hf0 : (cvs x.log)[((k : Int) + 1 - 1).toNat * 2 + 0]? = some (.int .i64 (atT x.log ((k : Int) + 1))) := by rw [hkz, cvs_at hkc (by omega), atT_pos hkc]; rfl
    refine WC.known (fun w h => rsome (base := base) hpos reads h) fun hb => ?_
    exact WC.skip <| WX.thenN <| WC.seq <| WC.region <| sv (vmP rfl) <| sv (vnil rfl) <| sv (vfld fl76f4 rfl) <| sv (vldc pl22 rfl) <| sv (vmI rfl) <| sv (vsub rfl rfl (by omega)) <| sv (vix Try.underlying22 sz39 rfl rfl (by omega) (by omega) reads (hpos)) <| sv (vfldr (hb) fl39f0 rfl) <| sv (vldo pl3 rfl reads (hf0)) <| sv (vaI rfl) <| WL.nil <| WX.thenN <| WC.ret <| WX.ret1 rfl (()) (trivial) rfl (fun _ h => h)
theorem hone {a b c d e f g : Int} {h : Bool} {s1 : Option Addr} {s2 s3 : Nat} : ∀ v ∈ [Value.int .i64 a, .int .i64 b, .int .i64 c, .int .i64 d, .int .i64 e, .int .i64 f, .int .i64 g, .bool h, .slice s1 s2 s3], v.oneCell' = true := by
  intro v hv
  simp only [List.mem_cons, List.not_mem_nil, or_false] at hv
  rcases hv with rfl | rfl | rfl | rfl | rfl | rfl | rfl | rfl | rfl <;> rfl
theorem mv_one (m : Mh) : ∀ v ∈ mv m, v.oneCell' = true := hone
theorem raft_mail {w0 : World} {A : List HProp} {p c : Nat} {base : Option Addr} {vv pv : Value} {x : Rn} {kind to_ : Int} [hc : CelAt A p (ncells x base c vv pv) 76] :
    Fun Try.prog w0 38 [.pointer (some ⟨p, 0, none⟩), .int .i64 kind, .int .i64 to_] A
      (Ret w0 (fun _ : Unit => True) (fun _ => .agg [.int .i64 kind, .int .i64 x.id, .int .i64 to_, .int .i64 x.term, .int .i64 0, .int .i64 0, .int .i64 0, .bool false, .slice none 0 0].toArray) (fun _ => A)) := by
  refine Fun.enter Try.func38 rfl Try.ntmps38 rfl ?_
  exact WC.seq <| WC.region <| alz (cs := [.int .i64 0, .int .i64 0, .int .i64 0, .int .i64 0, .int .i64 0, .int .i64 0, .int .i64 0, .bool false, .slice none 0 0]) zt28 (by rfl) fun b1 => WL.nil <| WX.thenN <| WC.seq <| WC.plan (.bar [0, 1, 2, 3, 4, 5, 6, 7, 8, 9, 10] 11 (.done [])) rfl (by kernel_rfl) <| WPl.bar (trivial) <| dv (fun g => (vmI rfl)) <| dv (fun g => (vmP rfl)) <| dv (fun g => (vnil rfl)) <| dv (fun g => (vfld fl76f0 rfl)) <| dv (fun g => (vldc pl3 rfl)) <| dv (fun g => (vmI rfl)) <| dv (fun g => (vmP rfl)) <| dv (fun g => (vnil rfl)) <| dv (fun g => (vfld fl76f2 rfl)) <| dv (fun g => (vldc pl3 rfl)) <| dv (fun g => (vbd (ps := [(0, .int _ _), (1, .int _ _), (2, .int _ _), (3, .int _ _)]) (cs := [_, _, _, _, _, _, _, _, _]) bt28 zt28 rfl (by rfl))) <| WD.eff rfl <| stA sz28 rfl rfl rfl rfl (hone) <| WL.nil <| WX.brT <| WPl.fin (trivial) <| WD.nil <| WX.thenN <| WC.ret <| WX.ret1c rfl ag28 sz28 (()) (trivial) rfl rfl (by decide) rfl (fun _ h => h.tail)
theorem raft_most {w0 : World} {A : List HProp} {p c : Nat} {base : Option Addr} {vv pv : Value} {x : Rn} {m : Int} (hn : 0 ≤ x.n ∧ x.n ≤ 5) [hc : CelAt A p (ncells x base c vv pv) 76] :
    Fun Try.prog w0 61 [.pointer (some ⟨p, 0, none⟩), .int .i64 m] A (Ret w0 (fun _ : Unit => True) (fun _ => .bool (decide (x.n < 2 * m))) (fun _ => A)) := by
  refine Fun.enter Try.func61 rfl Try.ntmps61 rfl ?_
  exact WC.seq <| WC.region <| sv (vaB rfl) <| WL.nil <| WX.thenN <| WC.seq <| WC.region <| sv (vmI rfl) <| sv (vmP rfl) <| sv (vnil rfl) <| sv (vfld fl76f1 rfl) <| sv (vldc pl3 rfl) <| sv (vw (v' := .int .i64 (x.n / 2)) (vquo rfl rfl (by decide)) (iv (by rw [Int.tdiv_eq_ediv_of_nonneg hn.1]; exact wrap64_in (by omega)))) <| sv (vgt rfl rfl) <| sv (vaB rfl) <| WL.nil <| WX.thenN <| WC.ret <| WX.ret1 rfl (()) (trivial) (bI (by omega)) (fun _ h => h)
theorem raft_rising {w0 : World} {A : List HProp} {c : Nat} {base : Option Addr} {l : List Cl} {least most : Int} (hl : l.length ≤ 9223372036854775807) [hR : Reads w0 A base (cvs l)] :
    Fun Try.prog w0 32 [.slice base l.length c, .int .i64 least, .int .i64 most] A
      (Ret w0 (fun _ : Unit => True) (fun _ => .bool (rises l least most)) (fun _ => A)) := by
  refine Fun.enter Try.func32 rfl Try.ntmps32 rfl ?_
  refine WC.seq <| WC.region <| sv (vaB rfl) <| WL.nil <| WX.thenN <| WC.seq <| WC.seq <| WC.region <| sv (vmS rfl) <| sv (vlen Try.underlying22 rfl) <| sv (vmI rfl) <| WL.nil <| WX.thenN <| WC.block <| ?_
  refine WC.loop (ι := Nat) (fun i => [(1, .int .i64 (if i = 0 then least else (l.getD (i - 1) ⟨0, ByteArray.empty⟩).term)), (11, .int .i64 i)]) [(2, .int _ _), (9, .slice _ _ _), (10, .int _ _)] (fun i => A) (fun i => i ≤ l.length ∧ rises l least most = rises (l.drop i) (if i = 0 then least else (l.getD (i - 1) ⟨0, ByteArray.empty⟩).term) most) (fun i => l.length - i) (0) (⟨by omega, by simp⟩) ⟨rfl, rfl, trivial⟩ ⟨rfl, rfl, rfl, trivial⟩ (fun _ h => h) ?_
  intro i ⟨hi, hr⟩ ρh
  obtain ⟨lst, hlst⟩ : ∃ lst : Int, lst = (if i = 0 then least else (l.getD (i - 1) ⟨0, ByteArray.empty⟩).term) := ⟨_, rfl⟩
  rw [← hlst] at hr ⊢
  refine WC.seq <| WC.region <| sv (vlt rfl rfl) <| WL.nil <| WX.thenN <| WC.seq <| ?_
  refine WC.ite rfl (fun h1 => ?_) (fun h1 => ?_)
  · -- then
    have hil : i < l.length := by omega
    obtain ⟨d, hd⟩ : ∃ d, l[i]? = some d := ⟨_, List.getElem?_eq_getElem hil⟩
    have hdr : l.drop i = d :: l.drop (i + 1) := by rw [List.drop_eq_getElem_cons hil, (List.getElem?_eq_some_iff.1 hd).2]
    rw [hdr] at hr
    have hlc := cvs_length l
    have hpos : 0 < (cvs l).length := by omega
    have hag : ((cvs l).drop (((i : Int)).toNat * 2)).take 2 = [.int .i64 d.term, .string d.data] := by rw [Int.toNat_natCast]; exact cvs_take2 hd
    have hone : ∀ v ∈ [Value.int .i64 d.term, .string d.data], v.oneCell' = true := by intro v hv; simp only [List.mem_cons, List.not_mem_nil, or_false] at hv; rcases hv with rfl | rfl <;> rfl
    refine WC.known (fun w h => rsome (base := base) hpos reads h) fun hb => ?_
    refine WC.skip <| WX.thenN <| ?_
    refine WC.cutv (ι := Unit) (fun i => [(1, .int .i64 d.term)]) [(2, .int _ _), (9, .slice _ _ _), (10, .int _ _), (11, .int _ _)] (fun i => A) (fun i => max lst 1 ≤ d.term ∧ d.term ≤ most ∧ (d.data.size : Int) ≤ 4096) ⟨rfl, rfl, rfl, rfl, trivial⟩ ?_ ?_
    · -- up to the join
      refine WC.block <| WC.seq <| WC.region <| sv (vix Try.underlying22 sz39 rfl rfl (by omega) (by omega) reads (hpos)) <| sv (vlda ag39 sz39 rfl reads (hag) rfl (by decide)) <| alz (cs := [.int .i64 0, .string ByteArray.empty]) zt39 (by rfl) fun b3 => stA sz39 rfl rfl rfl rfl (hone) <| WL.nil <| WX.thenN <| WC.seq <| ?_
      refine WC.cut0 [(31, .bool (decide (d.term < max lst 1 ∨ most < d.term ∨ (4096 : Int) < d.data.size)))] [(2, .int _ _), (8, _), (9, .slice _ _ _), (10, .int _ _), (11, .int _ _)] (cel b3 [.int .i64 d.term, .string d.data] 39 :: A) ⟨rfl, rfl, rfl, rfl, rfl, trivial⟩ ?_ fun ρh => ?_
      · -- raft.go:31
        refine WC.region <| sv (vfld fl39f0 rfl) <| sv (vldc pl3 rfl) <| sv (vmI rfl) <| sv (vmax rfl rfl) <| svs (vlt rfl rfl) (fun q1 => ?_) (fun q1 => ?_)
        ·
          exact sv (vmB rfl) <| sng rfl <| sng rfl <| sng rfl <| sng rfl <| sv (vpkt rfl) <| sv (vmB rfl) <| sng rfl <| sng rfl <| sng rfl <| sng rfl <| sv (vpkt rfl) <| WL.nil <| WX.mid () trivial ⟨bT (by first | omega | simp_all | grind), trivial⟩ ⟨rfl, rfl, rfl, rfl, rfl, trivial⟩ (fun _ h => h)
        ·
          refine sv (vmB rfl) <| svg rfl (vfld fl39f0 rfl) <| svg rfl (vldc pl3 rfl) <| svg rfl (vmI rfl) <| svsg rfl (vgt rfl rfl) (fun q2 => ?_) (fun q2 => ?_)
          ·
            exact sv (vpkf rfl) <| sv (vmB rfl) <| sng rfl <| sng rfl <| sng rfl <| sng rfl <| sv (vpkt rfl) <| WL.nil <| WX.mid () trivial ⟨bT (by first | omega | simp_all | grind), trivial⟩ ⟨rfl, rfl, rfl, rfl, rfl, trivial⟩ (fun _ h => h)
          ·
            exact sv (vpkf rfl) <| sv (vmB rfl) <| svg rfl (vfld fl39f1 rfl) <| svg rfl (vldc pl9 rfl) <| svg rfl (vlens Try.underlying9 rfl) <| svg rfl (vgt rfl rfl) <| sv (vpkf rfl) <| WL.nil <| WX.mid () trivial ⟨bI (by first | omega | simp_all | grind), trivial⟩ ⟨rfl, rfl, rfl, rfl, rfl, trivial⟩ (fun _ h => h)
      refine WC.ite rfl (fun h2 => ?_) (fun h2 => ?_)
      · -- then
        have hno : ¬ (max lst 1 ≤ d.term ∧ d.term ≤ most ∧ d.data.size ≤ 4096) := by omega
        exact WC.seq <| WC.region <| sv (vaB rfl) <| WL.nil <| WX.thenN <| WC.ret <| WX.thenR <| WX.blockR <| WX.thenR <| WX.thenR <| WX.blockR <| WX.thenR <| WX.ret1 rfl (()) (trivial) (by rw [hr, rises, decide_eq_false hno]; rfl) (fun _ h => h.tail)
      · -- else
        exact WC.skip <| WX.thenN <| WC.region <| sv (vfld fl39f0 rfl) <| sv (vldc pl3 rfl) <| sv (vaI rfl) <| WL.nil <| WX.blockN <| WX.mid (()) (⟨by omega, by omega, by omega⟩) ⟨rfl, trivial⟩ ⟨rfl, rfl, rfl, rfl, trivial⟩ (fun _ h => h.tail)
    · -- behind the join
      intro _ hj ρh
      refine WC.region <| sv (vadd rfl rfl (by omega)) <| sv (vmI rfl) <| WL.nil <| WX.again (i + 1) (⟨by omega, by rw [hr, rises, decide_eq_true (by omega), Bool.true_and, if_neg (by omega), Nat.add_sub_cancel, List.getD_eq_getElem?_getD, hd]; rfl⟩) (by omega) ⟨iv (by rw [if_neg (by omega), Nat.add_sub_cancel, List.getD_eq_getElem?_getD, hd]; rfl), rfl, trivial⟩ ⟨rfl, rfl, rfl, trivial⟩ (fun _ h => h)
  · -- else
    exact WC.exit <| WX.thenE <| WX.thenE <| WX.blockH <| WX.thenN <| WC.seq <| WC.region <| sv (vaB rfl) <| WL.nil <| WX.thenN <| WC.ret <| WX.ret1 rfl (()) (trivial) (by rw [hr, List.drop_eq_nil_of_le (by omega)]; rfl) (fun _ h => h)
end Go.Proofs.Ytekoilhjlofncaa
