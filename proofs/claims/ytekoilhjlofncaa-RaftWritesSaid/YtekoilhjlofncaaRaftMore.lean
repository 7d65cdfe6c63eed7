/-
  Layer 19: made, asked what it is; votes; one more cell.
-/
import Derived.Test.YtekoilhjlofncaaRaftAsk
set_option linter.unusedVariables false
set_option linter.unusedSimpArgs false
set_option maxRecDepth 4000
namespace Go.Proofs.Ytekoilhjlofncaa
open Go.Sl Go.RowKit Go.Raft

theorem raft_commit {w0 : World} {A : List HProp} {p : Nat} {x : Rn} : Fun Try.prog w0 24 [.pointer (some ⟨p, 0, none⟩)] (hnode p x :: A) (Ret w0 (fun _ : Unit => True) (fun _ => .int .i64 x.commit) (fun _ => hnode p x :: A)) := by
  refine Fun.ex (fun w h => hnode_open h) ?_
  rintro ⟨base, c, vv, pv⟩ hc
  dsimp only at hc ⊢
  refine Fun.enter Try.func24 rfl Try.ntmps24 rfl ?_
  refine WC.seq <| WC.region <| sv (vaI rfl) <| WL.nil <| WX.thenN <| WC.seq <| WC.seq <| WC.region <| sv (vmP rfl) <| sv (vpeqF Try.underlying32 rfl rfl) <| WL.nil <| WX.thenN <| ?_
  refine WC.ff rfl ?_
  exact WC.skip <| WX.thenN <| WC.seq <| WC.region <| sv (vmP rfl) <| sv (vnil rfl) <| sv (vfld fl76f7 rfl) <| sv (vldc pl3 rfl) <| sv (vaI rfl) <| WL.nil <| WX.thenN <| WC.ret <| WX.ret1 rfl (()) (trivial) rfl (fun w h => hnode_mk hc h)
theorem raft_role {w0 : World} {A : List HProp} {p : Nat} {x : Rn} : Fun Try.prog w0 25 [.pointer (some ⟨p, 0, none⟩)] (hnode p x :: A) (Ret w0 (fun _ : Unit => True) (fun _ => .int .i64 x.role) (fun _ => hnode p x :: A)) := by
  refine Fun.ex (fun w h => hnode_open h) ?_
  rintro ⟨base, c, vv, pv⟩ hc
  dsimp only at hc ⊢
  refine Fun.enter Try.func25 rfl Try.ntmps25 rfl ?_
  refine WC.seq <| WC.region <| sv (vaI rfl) <| WL.nil <| WX.thenN <| WC.seq <| WC.seq <| WC.region <| sv (vmP rfl) <| sv (vpeqF Try.underlying32 rfl rfl) <| WL.nil <| WX.thenN <| ?_
  refine WC.ff rfl ?_
  exact WC.skip <| WX.thenN <| WC.seq <| WC.region <| sv (vmP rfl) <| sv (vnil rfl) <| sv (vfld fl76f5 rfl) <| sv (vldc pl3 rfl) <| sv (vaI rfl) <| WL.nil <| WX.thenN <| WC.ret <| WX.ret1 rfl (()) (trivial) rfl (fun w h => hnode_mk hc h)
theorem raft_leader {w0 : World} {A : List HProp} {p : Nat} {x : Rn} : Fun Try.prog w0 26 [.pointer (some ⟨p, 0, none⟩)] (hnode p x :: A) (Ret w0 (fun _ : Unit => True) (fun _ => .int .i64 x.leader) (fun _ => hnode p x :: A)) := by
  refine Fun.ex (fun w h => hnode_open h) ?_
  rintro ⟨base, c, vv, pv⟩ hc
  dsimp only at hc ⊢
  refine Fun.enter Try.func26 rfl Try.ntmps26 rfl ?_
  refine WC.seq <| WC.region <| sv (vaI rfl) <| WL.nil <| WX.thenN <| WC.seq <| WC.seq <| WC.region <| sv (vmP rfl) <| sv (vpeqF Try.underlying32 rfl rfl) <| WL.nil <| WX.thenN <| ?_
  refine WC.ff rfl ?_
  exact WC.skip <| WX.thenN <| WC.seq <| WC.region <| sv (vmP rfl) <| sv (vnil rfl) <| sv (vfld fl76f6 rfl) <| sv (vldc pl3 rfl) <| sv (vaI rfl) <| WL.nil <| WX.thenN <| WC.ret <| WX.ret1 rfl (()) (trivial) rfl (fun w h => hnode_mk hc h)
theorem sone {a b : Int} {s1 : Option Addr} {s2 s3 : Nat} : ∀ v ∈ [Value.int .i64 a, .int .i64 b, .slice s1 s2 s3], v.oneCell' = true := by
  intro v hv
  simp only [List.mem_cons, List.not_mem_nil, or_false] at hv
  rcases hv with rfl | rfl | rfl <;> rfl
theorem raft_stable {w0 : World} {A : List HProp} {p : Nat} {x : Rn} (hx : RInv x) : Fun Try.prog w0 23 [.pointer (some ⟨p, 0, none⟩)] (hnode p x :: A)
    (Ret w0 (fun i : Option Addr × Nat => x.log.length ≤ i.2) (fun i => .agg [.int .i64 x.term, .int .i64 x.vote, .slice i.1 x.log.length i.2].toArray) (fun i => row i.1 i.2 2 39 (cvs x.log) :: hnode p x :: A)) := by
  refine Fun.ex (fun w h => hnode_open h) ?_
  rintro ⟨base, c, vv, pv⟩ hc
  dsimp only at hc ⊢
  have hl := hx.log
  refine Fun.enter Try.func23 rfl Try.ntmps23 rfl ?_
  refine WC.seq <| WC.region <| alz (cs := [.int .i64 0, .int .i64 0, .slice none 0 0]) zt24 (by rfl) fun b1 => WL.nil <| WX.thenN <| WC.seq <| WC.seq <| WC.region <| sv (vmP rfl) <| sv (vpeqF Try.underlying32 rfl rfl) <| WL.nil <| WX.thenN <| ?_
  refine WC.ff rfl ?_
  exact WC.skip <| WX.thenN <| WC.seq <| WC.plan (.pre [8, 9, 10, 11] (.one [0, 1, 2, 3, 4, 5, 6, 7] 12 (.bar [13] 14 (.done [])))) rfl (by kernel_rfl) <| WPl.pre (trivial) <| dv (fun g => (vmP rfl)) <| dv (fun g => (vnil rfl)) <| dv (fun g => (vfld fl76f4 rfl)) <| dv (fun g => (vldc pl22 rfl)) <| WD.nil <| WPl.one (fun g => g ++ cel b1 [.int .i64 0, .int .i64 0, .slice none 0 0] 24 :: cel p (ncells x base c vv pv) 76 :: row base c 2 39 (cvs x.log) :: extraC x vv pv :: A) ([]) (fun _ => trivial) (rfl) <| dv (fun g => (vmP rfl)) <| dv (fun g => (vnil rfl)) <| dv (fun g => (vfld fl76f2 rfl)) <| dv (fun g => (vldc pl3 rfl)) <| dv (fun g => (vmP rfl)) <| dv (fun g => (vnil rfl)) <| dv (fun g => (vfld fl76f3 rfl)) <| dv (fun g => (vldc pl3 rfl)) <| WD.eff rfl <| cl (raft_clone (hR := ⟨reads⟩) (by omega)) ct33 rfl fun i8 hi8 => WL.nil <| WX.br <| WPl.bar (⟨[_], rfl⟩) <| dv (fun g => (vbd (ps := [(0, .int _ _), (1, .int _ _), (2, .slice _ _ _)]) (cs := [_, _, _]) bt24 zt24 rfl (by rfl))) <| WD.eff rfl <| pm (fun _ h => h.pk1) <| stA sz24 rfl rfl rfl rfl sone <| WL.nil <| WX.brT <| WPl.fin (trivial) <| WD.nil <| WX.thenN <| WC.ret <| WX.ret1c rfl ag24 sz24 (i8) (hi8) rfl rfl (by decide) rfl (fun w h => ((hnode_mk hc (h.ix [2, 3, 4, 0, 1])).ix [1, 2, 0]).tail)
abbrev scells (t v : Int) (b : Option Addr) (l : List Cl) (c : Nat) : List Value := [.int .i64 t, .int .i64 v, .slice b l.length c]
def newOk (id n t v : Int) (l : List Cl) : Prop := 1 ≤ n ∧ n ≤ 5 ∧ 1 ≤ id ∧ id ≤ n ∧ mayS n t v l
instance (id n t v : Int) (l : List Cl) : Decidable (newOk id n t v l) := by unfold newOk; infer_instance
theorem RInv.new {id n t v : Int} {l : List Cl} (h : newOk id n t v l) : RInv (newR id n t v l) := by
  obtain ⟨a, b, c, d, e1, e2, e3, e4, e5, e6⟩ := h
  exact ⟨⟨a, b⟩, ⟨c, d⟩, ⟨e1, e2⟩, ⟨e3, e4⟩, e5, e6, .inl rfl, fun h => absurd rfl h, ⟨Int.le_refl _, by show (0 : Int) ≤ l.length; omega⟩, Int.le_refl _, ⟨Int.le_refl _, by show (0 : Int) ≤ 2; decide⟩, fun h => absurd h (by show ¬ (0 : Int) = 1; decide), fun h => absurd h (by show ¬ (0 : Int) = 2; decide)⟩
theorem new_leaf {P : Prop} {b : Bool} (h : ¬ P) : ((!b) = true ↔ (P ∨ b = false)) := by
  cases b <;> simp [h]
theorem raft_new_no {w0 : World} {A : List HProp} {id n t v : Int} {l : List Cl} {b : Option Addr} {c : Nat} (hl : l.length ≤ 1099511627776) [hR : Reads w0 A b (cvs l)] (hno : ¬ newOk id n t v l) :
    Fun Try.prog w0 10 [.int .i64 id, .int .i64 n, .agg (scells t v b l c).toArray] A (Ret w0 (fun _ : Unit => True) (fun _ => .tuple #[.pointer none, .int .i64 1]) (fun _ => A)) := by
  refine Fun.enter Try.func10 rfl Try.ntmps10 rfl ?_
  refine WC.seq <| WC.region <| bxc (v := .agg _) (cs := [.int _ _, .int _ _, .slice _ _ _]) rfl rfl fun b1 => sv (vaP rfl) <| sv (vaI rfl) <| WL.nil <| WX.thenN <| WC.seq <| ?_
  refine WC.cut0 [(57, .bool (decide ((n < 1 ∨ (5 : Int) < n ∨ id < 1 ∨ n < id ∨ t < 0 ∨ (1000000000 : Int) < t ∨ v < 0 ∨ n < v ∨ (10000 : Int) < l.length) ∨ rises l 1 t = false)))] [(0, .int _ _), (1, .int _ _), (5, _)] (cel b1 (scells t v b l c) 24 :: A) ⟨rfl, rfl, rfl, trivial⟩ ?_ fun ρh => ?_
  · -- raft.go:41
    refine WC.region <| sv (vmI rfl) <| svs (vlt rfl rfl) (fun q1 => ?_) (fun q1 => ?_)
    ·
      exact sv (vmB rfl) <| sng rfl <| sng rfl <| sv (vpkt rfl) <| sv (vmB rfl) <| sng rfl <| sng rfl <| sv (vpkt rfl) <| sv (vmB rfl) <| sng rfl <| sng rfl <| sng rfl <| sv (vpkt rfl) <| sv (vmB rfl) <| sng rfl <| sng rfl <| sng rfl <| sv (vpkt rfl) <| sv (vmB rfl) <| sng rfl <| sng rfl <| sng rfl <| sv (vpkt rfl) <| sv (vmB rfl) <| sng rfl <| sng rfl <| sng rfl <| sv (vpkt rfl) <| sv (vmB rfl) <| sng rfl <| sng rfl <| sng rfl <| sng rfl <| sv (vpkt rfl) <| sv (vmB rfl) <| sng rfl <| sng rfl <| sng rfl <| sng rfl <| sv (vpkt rfl) <| sv (vmB rfl) <| sng rfl <| sng rfl <| sng rfl <| sng rfl <| sng rfl <| sng rfl <| sv (vpkt rfl) <| WL.nil <| WX.mid () trivial ⟨bT (by first | omega | simp_all | grind), trivial⟩ ⟨rfl, rfl, rfl, trivial⟩ (fun _ h => h)
    ·
      refine sv (vmB rfl) <| svg rfl (vmI rfl) <| svsg rfl (vgt rfl rfl) (fun q2 => ?_) (fun q2 => ?_)
      ·
        exact sv (vpkf rfl) <| sv (vmB rfl) <| sng rfl <| sng rfl <| sv (vpkt rfl) <| sv (vmB rfl) <| sng rfl <| sng rfl <| sng rfl <| sv (vpkt rfl) <| sv (vmB rfl) <| sng rfl <| sng rfl <| sng rfl <| sv (vpkt rfl) <| sv (vmB rfl) <| sng rfl <| sng rfl <| sng rfl <| sv (vpkt rfl) <| sv (vmB rfl) <| sng rfl <| sng rfl <| sng rfl <| sv (vpkt rfl) <| sv (vmB rfl) <| sng rfl <| sng rfl <| sng rfl <| sng rfl <| sv (vpkt rfl) <| sv (vmB rfl) <| sng rfl <| sng rfl <| sng rfl <| sng rfl <| sv (vpkt rfl) <| sv (vmB rfl) <| sng rfl <| sng rfl <| sng rfl <| sng rfl <| sng rfl <| sng rfl <| sv (vpkt rfl) <| WL.nil <| WX.mid () trivial ⟨bT (by first | omega | simp_all | grind), trivial⟩ ⟨rfl, rfl, rfl, trivial⟩ (fun _ h => h)
      ·
        refine sv (vpkf rfl) <| sv (vmB rfl) <| svg rfl (vmI rfl) <| svsg rfl (vlt rfl rfl) (fun q3 => ?_) (fun q3 => ?_)
        ·
          exact sv (vpkf rfl) <| sv (vmB rfl) <| sng rfl <| sng rfl <| sng rfl <| sv (vpkt rfl) <| sv (vmB rfl) <| sng rfl <| sng rfl <| sng rfl <| sv (vpkt rfl) <| sv (vmB rfl) <| sng rfl <| sng rfl <| sng rfl <| sv (vpkt rfl) <| sv (vmB rfl) <| sng rfl <| sng rfl <| sng rfl <| sv (vpkt rfl) <| sv (vmB rfl) <| sng rfl <| sng rfl <| sng rfl <| sng rfl <| sv (vpkt rfl) <| sv (vmB rfl) <| sng rfl <| sng rfl <| sng rfl <| sng rfl <| sv (vpkt rfl) <| sv (vmB rfl) <| sng rfl <| sng rfl <| sng rfl <| sng rfl <| sng rfl <| sng rfl <| sv (vpkt rfl) <| WL.nil <| WX.mid () trivial ⟨bT (by first | omega | simp_all | grind), trivial⟩ ⟨rfl, rfl, rfl, trivial⟩ (fun _ h => h)
        ·
          refine sv (vpkf rfl) <| sv (vmB rfl) <| svg rfl (vmI rfl) <| svg rfl (vmI rfl) <| svsg rfl (vgt rfl rfl) (fun q4 => ?_) (fun q4 => ?_)
          ·
            exact sv (vpkf rfl) <| sv (vmB rfl) <| sng rfl <| sng rfl <| sng rfl <| sv (vpkt rfl) <| sv (vmB rfl) <| sng rfl <| sng rfl <| sng rfl <| sv (vpkt rfl) <| sv (vmB rfl) <| sng rfl <| sng rfl <| sng rfl <| sv (vpkt rfl) <| sv (vmB rfl) <| sng rfl <| sng rfl <| sng rfl <| sng rfl <| sv (vpkt rfl) <| sv (vmB rfl) <| sng rfl <| sng rfl <| sng rfl <| sng rfl <| sv (vpkt rfl) <| sv (vmB rfl) <| sng rfl <| sng rfl <| sng rfl <| sng rfl <| sng rfl <| sng rfl <| sv (vpkt rfl) <| WL.nil <| WX.mid () trivial ⟨bT (by first | omega | simp_all | grind), trivial⟩ ⟨rfl, rfl, rfl, trivial⟩ (fun _ h => h)
          ·
            refine sv (vpkf rfl) <| sv (vmB rfl) <| svg rfl (vfld fl24f0 rfl) <| svg rfl (vldc pl3 rfl) <| svsg rfl (vlt rfl rfl) (fun q5 => ?_) (fun q5 => ?_)
            ·
              exact sv (vpkf rfl) <| sv (vmB rfl) <| sng rfl <| sng rfl <| sng rfl <| sv (vpkt rfl) <| sv (vmB rfl) <| sng rfl <| sng rfl <| sng rfl <| sv (vpkt rfl) <| sv (vmB rfl) <| sng rfl <| sng rfl <| sng rfl <| sng rfl <| sv (vpkt rfl) <| sv (vmB rfl) <| sng rfl <| sng rfl <| sng rfl <| sng rfl <| sv (vpkt rfl) <| sv (vmB rfl) <| sng rfl <| sng rfl <| sng rfl <| sng rfl <| sng rfl <| sng rfl <| sv (vpkt rfl) <| WL.nil <| WX.mid () trivial ⟨bT (by first | omega | simp_all | grind), trivial⟩ ⟨rfl, rfl, rfl, trivial⟩ (fun _ h => h)
            ·
              refine sv (vpkf rfl) <| sv (vmB rfl) <| svg rfl (vfld fl24f0 rfl) <| svg rfl (vldc pl3 rfl) <| svsg rfl (vgt rfl rfl) (fun q6 => ?_) (fun q6 => ?_)
              ·
                exact sv (vpkf rfl) <| sv (vmB rfl) <| sng rfl <| sng rfl <| sng rfl <| sv (vpkt rfl) <| sv (vmB rfl) <| sng rfl <| sng rfl <| sng rfl <| sng rfl <| sv (vpkt rfl) <| sv (vmB rfl) <| sng rfl <| sng rfl <| sng rfl <| sng rfl <| sv (vpkt rfl) <| sv (vmB rfl) <| sng rfl <| sng rfl <| sng rfl <| sng rfl <| sng rfl <| sng rfl <| sv (vpkt rfl) <| WL.nil <| WX.mid () trivial ⟨bT (by first | omega | simp_all | grind), trivial⟩ ⟨rfl, rfl, rfl, trivial⟩ (fun _ h => h)
              ·
                refine sv (vpkf rfl) <| sv (vmB rfl) <| svg rfl (vfld fl24f1 rfl) <| svg rfl (vldc pl3 rfl) <| svsg rfl (vlt rfl rfl) (fun q7 => ?_) (fun q7 => ?_)
                ·
                  exact sv (vpkf rfl) <| sv (vmB rfl) <| sng rfl <| sng rfl <| sng rfl <| sng rfl <| sv (vpkt rfl) <| sv (vmB rfl) <| sng rfl <| sng rfl <| sng rfl <| sng rfl <| sv (vpkt rfl) <| sv (vmB rfl) <| sng rfl <| sng rfl <| sng rfl <| sng rfl <| sng rfl <| sng rfl <| sv (vpkt rfl) <| WL.nil <| WX.mid () trivial ⟨bT (by first | omega | simp_all | grind), trivial⟩ ⟨rfl, rfl, rfl, trivial⟩ (fun _ h => h)
                ·
                  refine sv (vpkf rfl) <| sv (vmB rfl) <| svg rfl (vfld fl24f1 rfl) <| svg rfl (vldc pl3 rfl) <| svg rfl (vmI rfl) <| svsg rfl (vgt rfl rfl) (fun q8 => ?_) (fun q8 => ?_)
                  ·
                    exact sv (vpkf rfl) <| sv (vmB rfl) <| sng rfl <| sng rfl <| sng rfl <| sng rfl <| sv (vpkt rfl) <| sv (vmB rfl) <| sng rfl <| sng rfl <| sng rfl <| sng rfl <| sng rfl <| sng rfl <| sv (vpkt rfl) <| WL.nil <| WX.mid () trivial ⟨bT (by first | omega | simp_all | grind), trivial⟩ ⟨rfl, rfl, rfl, trivial⟩ (fun _ h => h)
                  ·
                    refine sv (vpkf rfl) <| sv (vmB rfl) <| svg rfl (vfld fl24f2 rfl) <| svg rfl (vldc pl22 rfl) <| svg rfl (vlen Try.underlying22 rfl) <| svsg rfl (vgt rfl rfl) (fun q9 => ?_) (fun q9 => ?_)
                    ·
                      exact sv (vpkf rfl) <| sv (vmB rfl) <| sng rfl <| sng rfl <| sng rfl <| sng rfl <| sng rfl <| sng rfl <| sv (vpkt rfl) <| WL.nil <| WX.mid () trivial ⟨bT (by first | omega | simp_all | grind), trivial⟩ ⟨rfl, rfl, rfl, trivial⟩ (fun _ h => h)
                    ·
                      exact sv (vpkf rfl) <| sv (vmB rfl) <| svg rfl (vfld fl24f2 rfl) <| svg rfl (vldc pl22 rfl) <| svg rfl (vfld fl24f0 rfl) <| svg rfl (vldc pl3 rfl) <| gy rfl <| cl (raft_rising (by omega)) ct32 rfl fun _ _ => svg rfl (vnot rfl) <| sv (vpkf rfl) <| WL.nil <| WX.mid () trivial ⟨bB (new_leaf (by omega)), trivial⟩ ⟨rfl, rfl, rfl, trivial⟩ (fun _ h => h)
  refine WC.ite rfl (fun h1 => ?_) (fun h1 => ?_)
  · -- then
    exact WC.seq <| WC.region <| sv (vaP rfl) <| sv (vaI rfl) <| WL.nil <| WX.thenN <| WC.ret <| WX.thenR <| WX.ret2 rfl (()) (trivial) rfl (fun _ h => h.tail)
  · -- else
    exact absurd ⟨by omega, by omega, by omega, by omega, by omega, by omega, by omega, by omega, by omega, by by_cases hr : rises l 1 t = true; exact hr; exact absurd (by simp [hr]) h1⟩ hno
theorem raft_new {w0 : World} {A : List HProp} {id n t v : Int} {l : List Cl} {b : Option Addr} {c : Nat} (hl : l.length ≤ 1099511627776) [hR : Reads w0 A b (cvs l)] (hok : newOk id n t v l) :
    Fun Try.prog w0 10 [.int .i64 id, .int .i64 n, .agg (scells t v b l c).toArray] A (Ret w0 (fun _ : Nat => True) (fun p => .tuple #[.pointer (some ⟨p, 0, none⟩), .int .i64 0]) (fun p => hnode p (newR id n t v l) :: A)) := by
  have hx := RInv.new hok
  have hok' := hok
  obtain ⟨a1, a2, a3, a4, b1_, b2, b3, b4, b5, b6⟩ := hok'
  refine Fun.enter Try.func10 rfl Try.ntmps10 rfl ?_
  refine WC.seq <| WC.region <| bxc (v := .agg _) (cs := [.int _ _, .int _ _, .slice _ _ _]) rfl rfl fun b1 => sv (vaP rfl) <| sv (vaI rfl) <| WL.nil <| WX.thenN <| WC.seq <| ?_
  refine WC.cut0 [(57, .bool (decide ((n < 1 ∨ (5 : Int) < n ∨ id < 1 ∨ n < id ∨ t < 0 ∨ (1000000000 : Int) < t ∨ v < 0 ∨ n < v ∨ (10000 : Int) < l.length) ∨ rises l 1 t = false)))] [(0, .int _ _), (1, .int _ _), (5, _)] (cel b1 (scells t v b l c) 24 :: A) ⟨rfl, rfl, rfl, trivial⟩ ?_ fun ρh => ?_
  · -- raft.go:41
    refine WC.region <| sv (vmI rfl) <| svs (vlt rfl rfl) (fun q1 => ?_) (fun q1 => ?_)
    ·
      exact sv (vmB rfl) <| sng rfl <| sng rfl <| sv (vpkt rfl) <| sv (vmB rfl) <| sng rfl <| sng rfl <| sv (vpkt rfl) <| sv (vmB rfl) <| sng rfl <| sng rfl <| sng rfl <| sv (vpkt rfl) <| sv (vmB rfl) <| sng rfl <| sng rfl <| sng rfl <| sv (vpkt rfl) <| sv (vmB rfl) <| sng rfl <| sng rfl <| sng rfl <| sv (vpkt rfl) <| sv (vmB rfl) <| sng rfl <| sng rfl <| sng rfl <| sv (vpkt rfl) <| sv (vmB rfl) <| sng rfl <| sng rfl <| sng rfl <| sng rfl <| sv (vpkt rfl) <| sv (vmB rfl) <| sng rfl <| sng rfl <| sng rfl <| sng rfl <| sv (vpkt rfl) <| sv (vmB rfl) <| sng rfl <| sng rfl <| sng rfl <| sng rfl <| sng rfl <| sng rfl <| sv (vpkt rfl) <| WL.nil <| WX.mid () trivial ⟨bT (by first | omega | simp_all | grind), trivial⟩ ⟨rfl, rfl, rfl, trivial⟩ (fun _ h => h)
    ·
      refine sv (vmB rfl) <| svg rfl (vmI rfl) <| svsg rfl (vgt rfl rfl) (fun q2 => ?_) (fun q2 => ?_)
      ·
        exact sv (vpkf rfl) <| sv (vmB rfl) <| sng rfl <| sng rfl <| sv (vpkt rfl) <| sv (vmB rfl) <| sng rfl <| sng rfl <| sng rfl <| sv (vpkt rfl) <| sv (vmB rfl) <| sng rfl <| sng rfl <| sng rfl <| sv (vpkt rfl) <| sv (vmB rfl) <| sng rfl <| sng rfl <| sng rfl <| sv (vpkt rfl) <| sv (vmB rfl) <| sng rfl <| sng rfl <| sng rfl <| sv (vpkt rfl) <| sv (vmB rfl) <| sng rfl <| sng rfl <| sng rfl <| sng rfl <| sv (vpkt rfl) <| sv (vmB rfl) <| sng rfl <| sng rfl <| sng rfl <| sng rfl <| sv (vpkt rfl) <| sv (vmB rfl) <| sng rfl <| sng rfl <| sng rfl <| sng rfl <| sng rfl <| sng rfl <| sv (vpkt rfl) <| WL.nil <| WX.mid () trivial ⟨bT (by first | omega | simp_all | grind), trivial⟩ ⟨rfl, rfl, rfl, trivial⟩ (fun _ h => h)
      ·
        refine sv (vpkf rfl) <| sv (vmB rfl) <| svg rfl (vmI rfl) <| svsg rfl (vlt rfl rfl) (fun q3 => ?_) (fun q3 => ?_)
        ·
          exact sv (vpkf rfl) <| sv (vmB rfl) <| sng rfl <| sng rfl <| sng rfl <| sv (vpkt rfl) <| sv (vmB rfl) <| sng rfl <| sng rfl <| sng rfl <| sv (vpkt rfl) <| sv (vmB rfl) <| sng rfl <| sng rfl <| sng rfl <| sv (vpkt rfl) <| sv (vmB rfl) <| sng rfl <| sng rfl <| sng rfl <| sv (vpkt rfl) <| sv (vmB rfl) <| sng rfl <| sng rfl <| sng rfl <| sng rfl <| sv (vpkt rfl) <| sv (vmB rfl) <| sng rfl <| sng rfl <| sng rfl <| sng rfl <| sv (vpkt rfl) <| sv (vmB rfl) <| sng rfl <| sng rfl <| sng rfl <| sng rfl <| sng rfl <| sng rfl <| sv (vpkt rfl) <| WL.nil <| WX.mid () trivial ⟨bT (by first | omega | simp_all | grind), trivial⟩ ⟨rfl, rfl, rfl, trivial⟩ (fun _ h => h)
        ·
          refine sv (vpkf rfl) <| sv (vmB rfl) <| svg rfl (vmI rfl) <| svg rfl (vmI rfl) <| svsg rfl (vgt rfl rfl) (fun q4 => ?_) (fun q4 => ?_)
          ·
            exact sv (vpkf rfl) <| sv (vmB rfl) <| sng rfl <| sng rfl <| sng rfl <| sv (vpkt rfl) <| sv (vmB rfl) <| sng rfl <| sng rfl <| sng rfl <| sv (vpkt rfl) <| sv (vmB rfl) <| sng rfl <| sng rfl <| sng rfl <| sv (vpkt rfl) <| sv (vmB rfl) <| sng rfl <| sng rfl <| sng rfl <| sng rfl <| sv (vpkt rfl) <| sv (vmB rfl) <| sng rfl <| sng rfl <| sng rfl <| sng rfl <| sv (vpkt rfl) <| sv (vmB rfl) <| sng rfl <| sng rfl <| sng rfl <| sng rfl <| sng rfl <| sng rfl <| sv (vpkt rfl) <| WL.nil <| WX.mid () trivial ⟨bT (by first | omega | simp_all | grind), trivial⟩ ⟨rfl, rfl, rfl, trivial⟩ (fun _ h => h)
          ·
            refine sv (vpkf rfl) <| sv (vmB rfl) <| svg rfl (vfld fl24f0 rfl) <| svg rfl (vldc pl3 rfl) <| svsg rfl (vlt rfl rfl) (fun q5 => ?_) (fun q5 => ?_)
            ·
              exact sv (vpkf rfl) <| sv (vmB rfl) <| sng rfl <| sng rfl <| sng rfl <| sv (vpkt rfl) <| sv (vmB rfl) <| sng rfl <| sng rfl <| sng rfl <| sv (vpkt rfl) <| sv (vmB rfl) <| sng rfl <| sng rfl <| sng rfl <| sng rfl <| sv (vpkt rfl) <| sv (vmB rfl) <| sng rfl <| sng rfl <| sng rfl <| sng rfl <| sv (vpkt rfl) <| sv (vmB rfl) <| sng rfl <| sng rfl <| sng rfl <| sng rfl <| sng rfl <| sng rfl <| sv (vpkt rfl) <| WL.nil <| WX.mid () trivial ⟨bT (by first | omega | simp_all | grind), trivial⟩ ⟨rfl, rfl, rfl, trivial⟩ (fun _ h => h)
            ·
              refine sv (vpkf rfl) <| sv (vmB rfl) <| svg rfl (vfld fl24f0 rfl) <| svg rfl (vldc pl3 rfl) <| svsg rfl (vgt rfl rfl) (fun q6 => ?_) (fun q6 => ?_)
              ·
                exact sv (vpkf rfl) <| sv (vmB rfl) <| sng rfl <| sng rfl <| sng rfl <| sv (vpkt rfl) <| sv (vmB rfl) <| sng rfl <| sng rfl <| sng rfl <| sng rfl <| sv (vpkt rfl) <| sv (vmB rfl) <| sng rfl <| sng rfl <| sng rfl <| sng rfl <| sv (vpkt rfl) <| sv (vmB rfl) <| sng rfl <| sng rfl <| sng rfl <| sng rfl <| sng rfl <| sng rfl <| sv (vpkt rfl) <| WL.nil <| WX.mid () trivial ⟨bT (by first | omega | simp_all | grind), trivial⟩ ⟨rfl, rfl, rfl, trivial⟩ (fun _ h => h)
              ·
                refine sv (vpkf rfl) <| sv (vmB rfl) <| svg rfl (vfld fl24f1 rfl) <| svg rfl (vldc pl3 rfl) <| svsg rfl (vlt rfl rfl) (fun q7 => ?_) (fun q7 => ?_)
                ·
                  exact sv (vpkf rfl) <| sv (vmB rfl) <| sng rfl <| sng rfl <| sng rfl <| sng rfl <| sv (vpkt rfl) <| sv (vmB rfl) <| sng rfl <| sng rfl <| sng rfl <| sng rfl <| sv (vpkt rfl) <| sv (vmB rfl) <| sng rfl <| sng rfl <| sng rfl <| sng rfl <| sng rfl <| sng rfl <| sv (vpkt rfl) <| WL.nil <| WX.mid () trivial ⟨bT (by first | omega | simp_all | grind), trivial⟩ ⟨rfl, rfl, rfl, trivial⟩ (fun _ h => h)
                ·
                  refine sv (vpkf rfl) <| sv (vmB rfl) <| svg rfl (vfld fl24f1 rfl) <| svg rfl (vldc pl3 rfl) <| svg rfl (vmI rfl) <| svsg rfl (vgt rfl rfl) (fun q8 => ?_) (fun q8 => ?_)
                  ·
                    exact sv (vpkf rfl) <| sv (vmB rfl) <| sng rfl <| sng rfl <| sng rfl <| sng rfl <| sv (vpkt rfl) <| sv (vmB rfl) <| sng rfl <| sng rfl <| sng rfl <| sng rfl <| sng rfl <| sng rfl <| sv (vpkt rfl) <| WL.nil <| WX.mid () trivial ⟨bT (by first | omega | simp_all | grind), trivial⟩ ⟨rfl, rfl, rfl, trivial⟩ (fun _ h => h)
                  ·
                    refine sv (vpkf rfl) <| sv (vmB rfl) <| svg rfl (vfld fl24f2 rfl) <| svg rfl (vldc pl22 rfl) <| svg rfl (vlen Try.underlying22 rfl) <| svsg rfl (vgt rfl rfl) (fun q9 => ?_) (fun q9 => ?_)
                    ·
                      exact sv (vpkf rfl) <| sv (vmB rfl) <| sng rfl <| sng rfl <| sng rfl <| sng rfl <| sng rfl <| sng rfl <| sv (vpkt rfl) <| WL.nil <| WX.mid () trivial ⟨bT (by first | omega | simp_all | grind), trivial⟩ ⟨rfl, rfl, rfl, trivial⟩ (fun _ h => h)
                    ·
                      exact sv (vpkf rfl) <| sv (vmB rfl) <| svg rfl (vfld fl24f2 rfl) <| svg rfl (vldc pl22 rfl) <| svg rfl (vfld fl24f0 rfl) <| svg rfl (vldc pl3 rfl) <| gy rfl <| cl (raft_rising (by omega)) ct32 rfl fun _ _ => svg rfl (vnot rfl) <| sv (vpkf rfl) <| WL.nil <| WX.mid () trivial ⟨bB (new_leaf (by omega)), trivial⟩ ⟨rfl, rfl, rfl, trivial⟩ (fun _ h => h)
  refine WC.ite rfl (fun h1 => ?_) (fun h1 => ?_)
  · -- then
    exact absurd h1 (fun h => h.elim (fun h => by omega) (fun h => by rw [b6] at h; cases h))
  · -- else
    exact WC.skip <| WX.thenN <| WC.seq <| WC.plan (.pre [6, 7] (.one [0, 1, 2, 3, 4, 5] 8 (.bar [9] 10 (.done [11, 12])))) rfl (by kernel_rfl) <| WPl.pre (trivial) <| dv (fun g => (vfld fl24f2 rfl)) <| dv (fun g => (vldc pl22 rfl)) <| WD.nil <| WPl.one (fun g => g ++ cel b1 (scells t v b l c) 24 :: A) ([]) (fun _ => trivial) (rfl) <| dv (fun g => (vmI rfl)) <| dv (fun g => (vmI rfl)) <| dv (fun g => (vfld fl24f0 rfl)) <| dv (fun g => (vldc pl3 rfl)) <| dv (fun g => (vfld fl24f1 rfl)) <| dv (fun g => (vldc pl3 rfl)) <| WD.eff rfl <| cl (raft_clone (hR := ⟨reads⟩) (by omega)) ct33 rfl fun i13 hi13 => WL.nil <| WX.br <| WPl.bar (⟨[_], rfl⟩) <| dv (fun g => (vbd (ps := [(0, .int _ _), (1, .int _ _), (2, .int _ _), (3, .int _ _), (4, .slice _ _ _)]) (cs := [_, _, _, _, _, _, _, _, _, _, _, _]) bt76 zt76 rfl (by rfl))) <| WD.eff rfl <| bxc (v := .agg _) (cs := [.int _ _, .int _ _, .int _ _, .int _ _, .slice _ _ _, .int _ _, .int _ _, .int _ _, .int _ _, .int _ _, .map _, .map _]) rfl rfl fun b15 => WL.nil <| WX.brT <| WPl.fin (trivial) <| dv (fun g => (vaP rfl)) <| dv (fun g => (vaI rfl)) <| WD.nil <| WX.thenN <| WC.ret <| WX.ret2 rfl (b15) (trivial) rfl (fun w h => hnode_mk0 (x := newR id n t v l) (by show ¬ (0 : Int) = 1; decide) (by show ¬ (0 : Int) = 2; decide) hi13 h.pk2.tail)
theorem vents_put {l : List Int} {k : Int} : PutE (vents l) (.int .i64 k) (.agg #[]) (vents (if k ∈ l then l else l ++ [k])) := by
  split
  · rename_i h
    obtain ⟨j, hj⟩ := List.mem_iff_getElem?.1 h
    have h1 : (vents l)[j]? = some (.int .i64 k, .agg #[]) := by simp [vents, hj]
    have e : vents l = (vents l).set j (.int .i64 k, .agg #[]) := by
      apply List.ext_getElem?
      intro i
      rw [List.getElem?_set]
      by_cases hi : j = i
      · subst hi
        have := (List.getElem?_eq_some_iff.1 h1).1
        rw [if_pos rfl, if_pos this, h1]
      · rw [if_neg hi]
    have h2 := PutE.old (v := .agg #[]) j (.agg #[]) h1
    rwa [← e] at h2
  · rename_i h
    have e : vents (l ++ [k]) = vents l ++ [(.int .i64 k, .agg #[])] := by simp [vents]
    rw [e]
    refine .new fun q hq he => h ?_
    obtain ⟨r, hr, rfl⟩ := List.mem_map.1 hq
    have : r = k := by simpa using he
    exact this ▸ hr
theorem raft_votes_no {w0 : World} {A : List HProp} {p : Nat} {x : Rn} {m : Mh} (h : m.term ≠ x.term ∨ m.ok = false ∨ x.role ≠ 1) :
    Fun Try.prog w0 46 [.pointer (some ⟨p, 0, none⟩), .agg (mv m).toArray] (hnode p x :: A) (MR w0 p A (votesS x m.ml)) := by
  refine Fun.ex (fun w h => hnode_open h) ?_
  rintro ⟨base, c, vv, pv⟩ hc
  dsimp only at hc ⊢
  have ht : votesS x m.ml = (x, []) := if_pos h
  unfold MR
  rw [ht]
  refine Fun.enter Try.func46 rfl Try.ntmps46 rfl ?_
  refine WC.seq <| WC.region <| bxc (v := .agg _) (cs := [.int _ _, .int _ _, .int _ _, .int _ _, .int _ _, .int _ _, .int _ _, .bool _, .slice _ _ _]) rfl rfl fun b1 => sv (vaS rfl) <| WL.nil <| WX.thenN <| WC.seq <| ?_
  refine WC.cut0 [(23, .bool (decide (m.term ≠ x.term ∨ m.ok = false ∨ x.role ≠ 1)))] [(0, .pointer _), (3, _)] (cel b1 (mv m) 28 :: cel p (ncells x base c vv pv) 76 :: row base c 2 39 (cvs x.log) :: extraC x vv pv :: A) ⟨rfl, rfl, trivial⟩ ?_ fun ρh => ?_
  · -- raft.go:192
    refine WC.draws rfl (by kernel_rfl) <| qv (vfld fl28f3 rfl) <| qv (vldc pl3 rfl) <| qv (vmP rfl) <| qv (vnil rfl) <| qv (vfld fl76f2 rfl) <| qv (vldc pl3 rfl) <| qvs (vne rfl rfl) (fun q1 => ?_) (fun q1 => ?_)
    ·
      exact qv (vmB rfl) <| qng rfl <| qng rfl <| qng rfl <| qv (vpkt rfl) <| qv (vmB rfl) <| qng rfl <| qng rfl <| qng rfl <| qng rfl <| qng rfl <| qv (vpkt rfl) <| WQ.nil <| WX.mid () trivial ⟨bT (by first | omega | simp_all | grind), trivial⟩ ⟨rfl, rfl, trivial⟩ (fun _ h => h)
    ·
      refine qv (vmB rfl) <| qvg rfl (vfld fl28f7 rfl) <| qvbg rfl (vldc pl4 rfl) (fun q2 => ?_) (fun q2 => ?_)
      ·
        exact qvg rfl (vnot rfl) <| qv (vpkf rfl) <| qv (vmB rfl) <| qvg rfl (vmP rfl) <| qvg rfl (vnil rfl) <| qvg rfl (vfld fl76f5 rfl) <| qvg rfl (vldc pl3 rfl) <| qvg rfl (vne rfl rfl) <| qv (vpkf rfl) <| WQ.nil <| WX.mid () trivial ⟨bI (by first | omega | simp_all | grind), trivial⟩ ⟨rfl, rfl, trivial⟩ (fun _ h => h)
      ·
        exact qvg rfl (vnot rfl) <| qv (vpkf rfl) <| qv (vmB rfl) <| qng rfl <| qng rfl <| qng rfl <| qng rfl <| qng rfl <| qv (vpkt rfl) <| WQ.nil <| WX.mid () trivial ⟨bT (by first | omega | simp_all | grind), trivial⟩ ⟨rfl, rfl, trivial⟩ (fun _ h => h)
  refine WC.ite rfl (fun h1 => ?_) (fun h1 => ?_)
  · -- then
    exact WC.seq <| WC.region <| sv (vaS rfl) <| WL.nil <| WX.thenN <| WC.ret <| WX.thenR <| WX.ret1 rfl ((none, 0, [])) (⟨rfl, Nat.le_refl _⟩) rfl (fun w h => no_mails (hnode_mk hc h.tail))
  · -- else
    exact absurd h h1
theorem raft_votes_few {w0 : World} {A : List HProp} {p : Nat} {x : Rn} {m : Mh} (hx : RInv x) (h : ¬ (m.term ≠ x.term ∨ m.ok = false ∨ x.role ≠ 1)) (hv : ¬ (votedS m.fr x).n < 2 * ((votedS m.fr x).voted.length : Int)) :
    Fun Try.prog w0 46 [.pointer (some ⟨p, 0, none⟩), .agg (mv m).toArray] (hnode p x :: A) (MR w0 p A (votesS x m.ml)) := by
  have hr : x.role = 1 := by omega
  refine Fun.ex (fun w h => hnode_open1 hr h) ?_
  rintro ⟨base, c, mV, pv⟩ hc
  dsimp only at hc ⊢
  have hn := hx.n
  have hl := hx.log
  have hcm := hx.commit
  have ht : votesS x m.ml = leadS (votedS m.fr x) := if_neg h
  unfold MR
  rw [ht]
  refine Fun.enter Try.func46 rfl Try.ntmps46 rfl ?_
  refine WC.seq <| WC.region <| bxc (v := .agg _) (cs := [.int _ _, .int _ _, .int _ _, .int _ _, .int _ _, .int _ _, .int _ _, .bool _, .slice _ _ _]) rfl rfl fun b1 => sv (vaS rfl) <| WL.nil <| WX.thenN <| WC.seq <| ?_
  refine WC.cut0 [(23, .bool (decide (m.term ≠ x.term ∨ m.ok = false ∨ x.role ≠ 1)))] [(0, .pointer _), (3, _)] (cel b1 (mv m) 28 :: cel p (ncells x base c (.map (some mV)) pv) 76 :: row base c 2 39 (cvs x.log) :: mp (.int .i64) mV (vents x.voted) :: A) ⟨rfl, rfl, trivial⟩ ?_ fun ρh => ?_
  · -- raft.go:192
    refine WC.draws rfl (by kernel_rfl) <| qv (vfld fl28f3 rfl) <| qv (vldc pl3 rfl) <| qv (vmP rfl) <| qv (vnil rfl) <| qv (vfld fl76f2 rfl) <| qv (vldc pl3 rfl) <| qvs (vne rfl rfl) (fun q1 => ?_) (fun q1 => ?_)
    ·
      exact qv (vmB rfl) <| qng rfl <| qng rfl <| qng rfl <| qv (vpkt rfl) <| qv (vmB rfl) <| qng rfl <| qng rfl <| qng rfl <| qng rfl <| qng rfl <| qv (vpkt rfl) <| WQ.nil <| WX.mid () trivial ⟨bT (by first | omega | simp_all | grind), trivial⟩ ⟨rfl, rfl, trivial⟩ (fun _ h => h)
    ·
      refine qv (vmB rfl) <| qvg rfl (vfld fl28f7 rfl) <| qvbg rfl (vldc pl4 rfl) (fun q2 => ?_) (fun q2 => ?_)
      ·
        exact qvg rfl (vnot rfl) <| qv (vpkf rfl) <| qv (vmB rfl) <| qvg rfl (vmP rfl) <| qvg rfl (vnil rfl) <| qvg rfl (vfld fl76f5 rfl) <| qvg rfl (vldc pl3 rfl) <| qvg rfl (vne rfl rfl) <| qv (vpkf rfl) <| WQ.nil <| WX.mid () trivial ⟨bI (by first | omega | simp_all | grind), trivial⟩ ⟨rfl, rfl, trivial⟩ (fun _ h => h)
      ·
        exact qvg rfl (vnot rfl) <| qv (vpkf rfl) <| qv (vmB rfl) <| qng rfl <| qng rfl <| qng rfl <| qng rfl <| qng rfl <| qv (vpkt rfl) <| WQ.nil <| WX.mid () trivial ⟨bT (by first | omega | simp_all | grind), trivial⟩ ⟨rfl, rfl, trivial⟩ (fun _ h => h)
  refine WC.ite rfl (fun h1 => ?_) (fun h1 => ?_)
  · -- then
    exact absurd h1 h
  · -- else
    exact WC.skip <| WX.thenN <| WC.seq <| WC.plan (.bar [0, 1, 2, 3, 4, 5, 6] 7 (.done [])) rfl (by kernel_rfl) <| WPl.bar (trivial) <| dv (fun g => (vmP rfl)) <| dv (fun g => (vnil rfl)) <| dv (fun g => (vfld fl76f10 rfl)) <| dv (fun g => (vldc pl73 rfl)) <| dv (fun g => (vfld fl28f1 rfl)) <| dv (fun g => (vldc pl3 rfl)) <| dv (fun g => (vbd (ps := []) (cs := []) bt77 zt77 rfl (by rfl))) <| WD.eff rfl <| pm (fun _ h => h.pk3) <| mpu Try.underlying73 Try.underlying3 rfl rfl rfl rfl (vents_put) <| WL.nil <| WX.brT <| WPl.fin (trivial) <| WD.nil <| WX.thenN <| WC.seq <| WC.region <| sv (vmP rfl) <| pm (fun _ h => h.pk2) <| cl (raft_lead_no (x := votedS m.fr x) ⟨by show 0 ≤ x.n; omega, by show x.n ≤ 5; omega⟩ hv) ct36 rfl fun _ _ => sv (vaS rfl) <| WL.nil <| WX.thenN <| WC.ret <| WX.ret1 rfl ((none, 0, [])) (⟨by rw [leadS, if_neg hv]; rfl, Nat.le_refl _⟩) rfl (fun w h => by rw [leadS, if_neg hv]; exact no_mails (hnode_mk1 (x := votedS m.fr x) hr hc (h.ix [2, 0, 3, 1]).tail))
theorem raft_votes_most {w0 : World} {A : List HProp} {p : Nat} {x : Rn} {m : Mh} (hx : RInv x) (h : ¬ (m.term ≠ x.term ∨ m.ok = false ∨ x.role ≠ 1)) (hv : (votedS m.fr x).n < 2 * ((votedS m.fr x).voted.length : Int)) :
    Fun Try.prog w0 46 [.pointer (some ⟨p, 0, none⟩), .agg (mv m).toArray] (hnode p x :: A) (MR w0 p A (votesS x m.ml)) := by
  have hr : x.role = 1 := by omega
  refine Fun.ex (fun w h => hnode_open1 hr h) ?_
  rintro ⟨base, c, mV, pv⟩ hc
  dsimp only at hc ⊢
  have hn := hx.n
  have hl := hx.log
  have hcm := hx.commit
  have ht : votesS x m.ml = leadS (votedS m.fr x) := if_neg h
  unfold MR
  rw [ht]
  refine Fun.enter Try.func46 rfl Try.ntmps46 rfl ?_
  refine WC.seq <| WC.region <| bxc (v := .agg _) (cs := [.int _ _, .int _ _, .int _ _, .int _ _, .int _ _, .int _ _, .int _ _, .bool _, .slice _ _ _]) rfl rfl fun b1 => sv (vaS rfl) <| WL.nil <| WX.thenN <| WC.seq <| ?_
  refine WC.cut0 [(23, .bool (decide (m.term ≠ x.term ∨ m.ok = false ∨ x.role ≠ 1)))] [(0, .pointer _), (3, _)] (cel b1 (mv m) 28 :: cel p (ncells x base c (.map (some mV)) pv) 76 :: row base c 2 39 (cvs x.log) :: mp (.int .i64) mV (vents x.voted) :: A) ⟨rfl, rfl, trivial⟩ ?_ fun ρh => ?_
  · -- raft.go:192
    refine WC.draws rfl (by kernel_rfl) <| qv (vfld fl28f3 rfl) <| qv (vldc pl3 rfl) <| qv (vmP rfl) <| qv (vnil rfl) <| qv (vfld fl76f2 rfl) <| qv (vldc pl3 rfl) <| qvs (vne rfl rfl) (fun q1 => ?_) (fun q1 => ?_)
    ·
      exact qv (vmB rfl) <| qng rfl <| qng rfl <| qng rfl <| qv (vpkt rfl) <| qv (vmB rfl) <| qng rfl <| qng rfl <| qng rfl <| qng rfl <| qng rfl <| qv (vpkt rfl) <| WQ.nil <| WX.mid () trivial ⟨bT (by first | omega | simp_all | grind), trivial⟩ ⟨rfl, rfl, trivial⟩ (fun _ h => h)
    ·
      refine qv (vmB rfl) <| qvg rfl (vfld fl28f7 rfl) <| qvbg rfl (vldc pl4 rfl) (fun q2 => ?_) (fun q2 => ?_)
      ·
        exact qvg rfl (vnot rfl) <| qv (vpkf rfl) <| qv (vmB rfl) <| qvg rfl (vmP rfl) <| qvg rfl (vnil rfl) <| qvg rfl (vfld fl76f5 rfl) <| qvg rfl (vldc pl3 rfl) <| qvg rfl (vne rfl rfl) <| qv (vpkf rfl) <| WQ.nil <| WX.mid () trivial ⟨bI (by first | omega | simp_all | grind), trivial⟩ ⟨rfl, rfl, trivial⟩ (fun _ h => h)
      ·
        exact qvg rfl (vnot rfl) <| qv (vpkf rfl) <| qv (vmB rfl) <| qng rfl <| qng rfl <| qng rfl <| qng rfl <| qng rfl <| qv (vpkt rfl) <| WQ.nil <| WX.mid () trivial ⟨bT (by first | omega | simp_all | grind), trivial⟩ ⟨rfl, rfl, trivial⟩ (fun _ h => h)
  refine WC.ite rfl (fun h1 => ?_) (fun h1 => ?_)
  · -- then
    exact absurd h1 h
  · -- else
    exact WC.skip <| WX.thenN <| WC.seq <| WC.plan (.bar [0, 1, 2, 3, 4, 5, 6] 7 (.done [])) rfl (by kernel_rfl) <| WPl.bar (trivial) <| dv (fun g => (vmP rfl)) <| dv (fun g => (vnil rfl)) <| dv (fun g => (vfld fl76f10 rfl)) <| dv (fun g => (vldc pl73 rfl)) <| dv (fun g => (vfld fl28f1 rfl)) <| dv (fun g => (vldc pl3 rfl)) <| dv (fun g => (vbd (ps := []) (cs := []) bt77 zt77 rfl (by rfl))) <| WD.eff rfl <| pm (fun _ h => h.pk3) <| mpu Try.underlying73 Try.underlying3 rfl rfl rfl rfl (vents_put) <| WL.nil <| WX.brT <| WPl.fin (trivial) <| WD.nil <| WX.thenN <| WC.seq <| WC.region <| sv (vmP rfl) <| pm (fun _ h => h.pk2.pk3.pk1) <| cl (raft_lead_yes (x := votedS m.fr x) ⟨by show 0 ≤ x.n; omega, by show x.n ≤ 5; omega⟩ hl hc hcm.1 hv) ct36 rfl fun i10 hi10 => sv (vaS rfl) <| WL.nil <| WX.thenN <| WC.ret <| WX.ret1 rfl ((i10.ob, i10.oc, i10.ms)) (hi10.1) rfl (fun w h => (hnode_mk2 (leadS_role hv) hi10.2.1 (hi10.2.2.trans (leadS_others hv).symm) (h.ix [6, 2, 3, 4, 5, 0, 1]).tail).ix [1, 2, 0])
theorem raft_votes {w0 : World} {A : List HProp} {p : Nat} {x : Rn} {m : Mh} (hx : RInv x) :
    Fun Try.prog w0 46 [.pointer (some ⟨p, 0, none⟩), .agg (mv m).toArray] (hnode p x :: A) (MR w0 p A (votesS x m.ml)) := by
  by_cases h : m.term ≠ x.term ∨ m.ok = false ∨ x.role ≠ 1
  · exact raft_votes_no h
  · by_cases hv : (votedS m.fr x).n < 2 * ((votedS m.fr x).voted.length : Int)
    · exact raft_votes_most hx h hv
    · exact raft_votes_few hx h hv
def mixF (a b : List HProp) : List HProp → List HProp
  | [] => a
  | X :: g => (X :: g) ++ b
theorem mixF_cell {w0 : World} {a b : List HProp} {q : Option Addr} {v : Value} (h1 : CellC w0 a q v) (h2 : ∀ g, CellC w0 (g ++ b) q v) (g : List HProp) : CellC w0 (mixF a b g) q v := by
  cases g with
  | nil => exact h1
  | cons X g => exact h2 (X :: g)
theorem str_nil {d : ByteArray} : d = ⟨#[]⟩ ↔ d.size = 0 := by
  constructor
  · rintro rfl; rfl
  · intro h
    apply ByteArray.ext
    exact Array.eq_empty_of_size_eq_zero h
theorem raft_propose_err {w0 : World} {A : List HProp} {p : Nat} {x : Rn} {d : ByteArray} (h : proposeE x d ≠ 0) :
    Fun Try.prog w0 21 [.pointer (some ⟨p, 0, none⟩), .string d] (hnode p x :: A) (Ret w0 (fun _ : Unit => True) (fun _ => .tuple #[.int .i64 0, .slice none 0 0, .int .i64 (proposeE x d)]) (fun _ => hnode p x :: A)) := by
  refine Fun.ex (fun w h => hnode_open h) ?_
  rintro ⟨base, c, vv, pv⟩ hc
  dsimp only at hc ⊢
  refine Fun.enter Try.func21 rfl Try.ntmps21 rfl ?_
  refine WC.seq <| WC.region <| sv (vaI rfl) <| sv (vaS rfl) <| sv (vaI rfl) <| WL.nil <| WX.thenN <| WC.seq <| WC.block <| WC.seq <| WC.region <| sv (vmP rfl) <| sv (vpeqF Try.underlying32 rfl rfl) <| sv (vaB rfl) <| WL.nil <| WX.thenN <| ?_
  refine WC.ff rfl ?_
  refine WC.cut0 [(10, .bool (decide (d = ⟨#[]⟩ ∨ (4096 : Int) < d.size)))] [(0, .pointer _), (1, .string _)] (cel p (ncells x base c vv pv) 76 :: row base c 2 39 (cvs x.log) :: extraC x vv pv :: A) ⟨rfl, rfl, trivial⟩ ?_ fun ρh => ?_
  · -- raft.go:253
    refine WC.region <| sv (vmT rfl) <| svs (veqs rfl rfl) (fun q1 => ?_) (fun q1 => ?_)
    ·
      exact sv (vmB rfl) <| sng rfl <| sng rfl <| sng rfl <| sv (vpkt rfl) <| sv (vaB rfl) <| WL.nil <| WX.mid () trivial ⟨bT (by first | omega | simp_all | grind), trivial⟩ ⟨rfl, rfl, trivial⟩ (fun _ h => h)
    ·
      exact sv (vmB rfl) <| svg rfl (vmT rfl) <| svg rfl (vlens Try.underlying9 rfl) <| svg rfl (vgt rfl rfl) <| sv (vpkf rfl) <| sv (vaB rfl) <| WL.nil <| WX.mid () trivial ⟨bI (by first | omega | simp_all | grind), trivial⟩ ⟨rfl, rfl, trivial⟩ (fun _ h => h)
  refine WC.ite rfl (fun h2 => ?_) (fun h2 => ?_)
  · -- then
    have e : proposeE x d = 1 := if_pos (h2.imp str_nil.1 (fun h => by omega))
    rw [e]
    exact WC.seq <| WC.region <| sv (vaI rfl) <| sv (vaS rfl) <| sv (vaI rfl) <| WL.nil <| WX.thenN <| WC.ret <| WX.blockR <| WX.thenR <| WX.ret3 rfl (()) (trivial) rfl (fun w h => hnode_mk hc h)
  · -- else
    have n1 : ¬ (d.size = 0 ∨ 4096 < d.size) := fun h => h2 (h.imp str_nil.2 (fun h => by omega))
    refine WC.seq <| WC.region <| sv (vmP rfl) <| sv (vnil rfl) <| sv (vfld fl76f5 rfl) <| sv (vldc pl3 rfl) <| sv (vne rfl rfl) <| sv (vaB rfl) <| WL.nil <| WX.thenN <| ?_
    refine WC.ite rfl (fun h3 => ?_) (fun h3 => ?_)
    · -- then
      have e : proposeE x d = 190 := by unfold proposeE; rw [if_neg n1, if_pos h3]
      rw [e]
      exact WC.seq <| WC.region <| sv (vaI rfl) <| sv (vaS rfl) <| sv (vaI rfl) <| WL.nil <| WX.thenN <| WC.ret <| WX.blockR <| WX.thenR <| WX.ret3 rfl (()) (trivial) rfl (fun w h => hnode_mk hc h)
    · -- else
      refine WC.seq <| WC.region <| sv (vmP rfl) <| sv (vnil rfl) <| sv (vfld fl76f4 rfl) <| sv (vldc pl22 rfl) <| sv (vlen Try.underlying22 rfl) <| sv (vge rfl rfl) <| sv (vaB rfl) <| WL.nil <| WX.thenN <| ?_
      refine WC.ite rfl (fun h4 => ?_) (fun h4 => ?_)
      · -- then
        have e : proposeE x d = 8 := by unfold proposeE; rw [if_neg n1, if_neg h3, if_pos (show 10000 ≤ x.log.length by omega)]
        rw [e]
        exact WC.seq <| WC.region <| sv (vaI rfl) <| sv (vaS rfl) <| sv (vaI rfl) <| WL.nil <| WX.thenN <| WC.ret <| WX.blockR <| WX.thenR <| WX.ret3 rfl (()) (trivial) rfl (fun w h => hnode_mk hc h)
      · -- else
        exact absurd (by unfold proposeE; rw [if_neg n1, if_neg h3, if_neg (show ¬ 10000 ≤ x.log.length by omega)]) h
theorem raft_propose {w0 : World} {A : List HProp} {p : Nat} {x : Rn} {d : ByteArray} (hx : RInv x) (h : proposeE x d = 0) :
    Fun Try.prog w0 21 [.pointer (some ⟨p, 0, none⟩), .string d] (hnode p x :: A)
      (Ret w0 (fun i : Option Addr × Nat × List Mh => i.2.2.map Mh.ml = (proposeS x d).2 ∧ i.2.2.length ≤ i.2.1) (fun i => .tuple #[.int .i64 ((x.log.length : Int) + 1), .slice i.1 i.2.2.length i.2.1, .int .i64 0]) (fun i => row i.1 i.2.1 9 28 (mvs i.2.2) :: mrows i.2.2 :: hnode p (proposeS x d).1 :: A)) := by
  have hp : d.size ≠ 0 ∧ d.size ≤ 4096 ∧ x.role = 2 ∧ x.log.length < 10000 := by
    unfold proposeE at h
    split at h
    · cases h
    · split at h
      · cases h
      · split at h
        · cases h
        · omega
  have hr := hp.2.2.1
  refine Fun.ex (fun w h => hnode_open2 hr h) ?_
  rintro ⟨base, c, vv, m, ps⟩ ⟨hc, hps⟩
  dsimp only at hc hps ⊢
  have hn := hx.n
  have hl := hx.log
  have hcm := hx.commit
  have hpe := hx.peers hr
  have hyl : (addS d x).log.length = x.log.length + 1 := by simp [addS]
  refine Fun.enter Try.func21 rfl Try.ntmps21 rfl ?_
  refine WC.seq <| WC.region <| sv (vaI rfl) <| sv (vaS rfl) <| sv (vaI rfl) <| WL.nil <| WX.thenN <| WC.seq <| WC.block <| WC.seq <| WC.region <| sv (vmP rfl) <| sv (vpeqF Try.underlying32 rfl rfl) <| sv (vaB rfl) <| WL.nil <| WX.thenN <| ?_
  refine WC.ff rfl ?_
  refine WC.cut0 [(10, .bool (decide (d = ⟨#[]⟩ ∨ (4096 : Int) < d.size)))] [(0, .pointer _), (1, .string _)] (cel p (ncells x base c vv (.map (some m))) 76 :: row base c 2 39 (cvs x.log) :: mp (.int .i64) m (pents ps) :: peersC x.nx x.mt ps :: A) ⟨rfl, rfl, trivial⟩ ?_ fun ρh => ?_
  · -- raft.go:253
    refine WC.region <| sv (vmT rfl) <| svs (veqs rfl rfl) (fun q1 => ?_) (fun q1 => ?_)
    ·
      exact sv (vmB rfl) <| sng rfl <| sng rfl <| sng rfl <| sv (vpkt rfl) <| sv (vaB rfl) <| WL.nil <| WX.mid () trivial ⟨bT (by first | omega | simp_all | grind), trivial⟩ ⟨rfl, rfl, trivial⟩ (fun _ h => h)
    ·
      exact sv (vmB rfl) <| svg rfl (vmT rfl) <| svg rfl (vlens Try.underlying9 rfl) <| svg rfl (vgt rfl rfl) <| sv (vpkf rfl) <| sv (vaB rfl) <| WL.nil <| WX.mid () trivial ⟨bI (by first | omega | simp_all | grind), trivial⟩ ⟨rfl, rfl, trivial⟩ (fun _ h => h)
  refine WC.ite rfl (fun h2 => ?_) (fun h2 => ?_)
  · -- then
    exact absurd h2 (by rw [str_nil]; omega)
  · -- else
    refine WC.seq <| WC.region <| sv (vmP rfl) <| sv (vnil rfl) <| sv (vfld fl76f5 rfl) <| sv (vldc pl3 rfl) <| sv (vne rfl rfl) <| sv (vaB rfl) <| WL.nil <| WX.thenN <| ?_
    refine WC.ite rfl (fun h3 => ?_) (fun h3 => ?_)
    · -- then
      exact absurd hr h3
    · -- else
      refine WC.seq <| WC.region <| sv (vmP rfl) <| sv (vnil rfl) <| sv (vfld fl76f4 rfl) <| sv (vldc pl22 rfl) <| sv (vlen Try.underlying22 rfl) <| sv (vge rfl rfl) <| sv (vaB rfl) <| WL.nil <| WX.thenN <| ?_
      refine WC.ite rfl (fun h4 => ?_) (fun h4 => ?_)
      · -- then
        exact absurd h4 (by omega)
      · -- else
        refine WC.perm (A' := row base c 2 39 (cvs x.log) :: cel p (ncells x base c vv (.map (some m))) 76 :: mp (.int .i64) m (pents ps) :: peersC x.nx x.mt ps :: A) ?_ (fun _ h => h.pk1)
        exact WC.skip <| WX.blockN <| WX.thenN <| WC.seq <| WC.plan (.pre [5, 6, 7, 8, 9, 10] (.one [0, 1, 2, 3, 4] 11 (.one [] 12 (.bar [13, 14] 15 (.done []))))) rfl (by kernel_rfl) <| WPl.pre (trivial) <| dv (fun g => (vmP rfl)) <| dv (fun g => (vnil rfl)) <| dv (fun g => (vfld fl76f2 rfl)) <| dv (fun g => (vldc pl3 rfl)) <| dv (fun g => (vmT rfl)) <| dv (fun g => (vbd (ps := [(0, .int _ _), (1, .string _)]) (cs := [_, _]) bt39 zt39 rfl (by rfl))) <| WD.nil <| WPl.one (fun g => g ++ cel p (ncells x base c vv (.map (some m))) 76 :: mp (.int .i64) m (pents ps) :: peersC x.nx x.mt ps :: A) ([_]) (fun _ => trivial) (rfl) <| dv (fun g => (vmP rfl)) <| dv (fun g => (vmP rfl)) <| dv (fun g => (vnil rfl)) <| dv (fun g => (vfld fl76f4 rfl)) <| dv (fun g => (vldc pl22 rfl)) <| WD.eff rfl <| bslA (v := .agg _) (cs := [.int .i64 x.term, .string d]) Try.underlying22 zt39 rfl rfl rfl (by decide) (by decide) fun b7 =>WL.nil <| WX.br <| WPl.one (fun g => g ++ cel p (ncells x base c vv (.map (some m))) 76 :: mp (.int .i64) m (pents ps) :: peersC x.nx x.mt ps :: A) ([_, _]) (fun g => good_same _ g) (rfl) <| WD.eff rfl <| pm (fun _ h => h.pk1) <| ap (news := [.int .i64 x.term, .string d]) rfl Try.underlying22 zt39 rfl rfl rfl (cvs_length _) rfl cone (RdC.of_cel (e := 39) (ws := [.int .i64 x.term, .string d]) 0 (by simp) (by simp)) (by simp only [maxLen]; omega) (by omega) fun base8 c8 hc8 =>WL.nil <| WX.br <| WPl.bar (⟨[_, _], rfl⟩) <| dv (fun g => (vnil rfl)) <| dv (fun g => (vfld fl76f4 rfl)) <| WD.eff rfl <| pm (fun _ h => h.pk2) <| stc (v := .slice _ _ _) pl22 sz22 rfl rfl rfl <| WL.nil <| WX.brT <| WPl.fin (trivial) <| WD.nil <| WX.thenN <| WC.seq <| WC.region <| sv (vmP rfl) <| pm (fun _ h => add_fix (x := x) (data := d) h.pk4.pk4.pk3.pk3) <| cl (raft_count (x := addS d x) ⟨by show 0 ≤ x.n; omega, by show x.n ≤ 5; omega⟩ (by omega) hcm.1 hps) ct52 rfl fun _ _ => WL.nil <| WX.thenN <| WC.seq <| WC.plan (.pre [5] (.one [0, 1, 2, 3, 4] 6 (.done [7, 8, 9]))) rfl (by kernel_rfl) <| WPl.pre (trivial) <| dv (fun g => (vmP rfl)) <| WD.nil <| WPl.one (mixF (cel p (ncells (countS (addS d x)) base8 c8 vv (.map (some m))) 76 :: row base8 c8 2 39 (cvs (addS d x).log) :: mp (.int .i64) m (pents ps) :: peersC x.nx x.mt ps :: cel b7 [.int .i64 x.term, .string d] 39 :: A) (cel p (ncells (feedAllS (countS (addS d x))).1 base8 c8 vv (.map (some m))) 76 :: row base8 c8 2 39 (cvs (addS d x).log) :: mp (.int .i64) m (pents ps) :: peersC x.nx x.mt ps :: cel b7 [.int .i64 x.term, .string d] 39 :: A)) ([]) (fun _ => trivial) (rfl) <| dv (fun g => (vmP rfl)) <| dv (fun g => (vnil rfl)) <| dv (fun g => (vfld fl76f4 rfl)) <| dv (fun g => (vld pl22 rfl (mixF_cell (CellC.of_cel (i := 4) (v := .slice base8 (addS d x).log.length c8) (List.Mem.head _) rfl) (fun g => CellC.of_cel (i := 4) (v := .slice base8 (addS d x).log.length c8) (List.mem_append_right _ (List.Mem.head _)) rfl) g))) <| dv (fun g => (vlen Try.underlying22 rfl)) <| WD.eff rfl <| cl (raft_feedAll (x := countS (addS d x)) ⟨by show 0 ≤ x.n; omega, by show x.n ≤ 5; omega⟩ (by show (addS d x).log.length ≤ 10000; omega) (by show (addS d x).log.length ≤ c8; omega) (fun k _ => by have := hpe k; show 1 ≤ x.nx k ∧ x.nx k ≤ ((addS d x).log.length : Int) + 1; omega) hps) ct35 rfl fun i12 hi12 => WL.nil <| WX.br <| WPl.fin (⟨[_, _], rfl⟩) <| dv (fun g => (vaI rfl)) <| dv (fun g => (vaS rfl)) <| dv (fun g => (vaI rfl)) <| WD.nil <| WX.thenN <| WC.ret <| WX.ret3 rfl (i12) (hi12) (by show Value.tuple #[.int .i64 ((addS d x).log.length : Int), _, _] = _; rw [hyl]; rfl) (fun w h => (hnode_mk2 (x := (proposeS x d).1) hr (by show (addS d x).log.length ≤ c8; omega) hps (h.ix [6, 2, 3, 4, 5, 0, 1]).tail).ix [1, 2, 0])
end Go.Proofs.Ytekoilhjlofncaa
