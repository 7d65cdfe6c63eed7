/-
  Layer 19: may a mail be?
-/
import Derived.Test.YtekoilhjlofncaaRaftSpecF
set_option linter.unusedVariables false
set_option linter.unusedSimpArgs false
set_option maxRecDepth 4000
namespace Go.Proofs.Ytekoilhjlofncaa
open Go.Sl Go.RowKit Go.Raft

def prevOk (m : Mh) : Prop := 0 ≤ m.prev ∧ m.prev ≤ m.term ∧ (m.prev = 0 ↔ m.index = 0)
instance (m : Mh) : Decidable (prevOk m) := by unfold prevOk; infer_instance
def headOk (x : Rn) (m : Mh) : Prop := 1 ≤ m.fr ∧ m.fr ≤ x.n ∧ m.fr ≠ x.id ∧ m.to_ = x.id ∧ 1 ≤ m.term ∧ m.term ≤ 1000000000 ∧ 0 ≤ m.index ∧ m.index ≤ 10000
theorem may_no {x : Rn} {m : Mh} (h : ¬ headOk x m) : ¬ mailOk x.id x.n m.ml := fun hm => h hm.1
theorem may_ask {x : Rn} {m : Mh} (h : headOk x m) (hk : m.kind = 1) : prevOk m ↔ mailOk x.id x.n m.ml := by
  constructor
  · intro hp; exact ⟨h, .inr (.inr ⟨.inl hk, hp.1, hp.2.1, hp.2.2, fun h3 => absurd h3 (by show ¬ m.kind = 3; omega)⟩)⟩
  · rintro ⟨_, h2 | h4 | ⟨_, a, b, c, _⟩⟩
    · exact absurd h2 (by show ¬ m.kind = 2; omega)
    · exact absurd h4 (by show ¬ m.kind = 4; omega)
    · exact ⟨a, b, c⟩
theorem may_two {x : Rn} {m : Mh} (h : headOk x m) (hk : m.kind = 2 ∨ m.kind = 4) : mailOk x.id x.n m.ml := ⟨h, by rcases hk with h | h; exact .inl h; exact .inr (.inl h)⟩
theorem may_three {x : Rn} {m : Mh} (h : headOk x m) (hk : m.kind = 3) : (prevOk m ∧ 0 ≤ m.commit ∧ m.commit ≤ 10000 ∧ (m.cs.xs.length : Int) ≤ 8 ∧ m.index + (m.cs.xs.length : Int) ≤ 10000 ∧ rises m.cs.xs m.prev m.term = true) ↔ mailOk x.id x.n m.ml := by
  constructor
  · rintro ⟨hp, a, b, c, d, e⟩; exact ⟨h, .inr (.inr ⟨.inr hk, hp.1, hp.2.1, hp.2.2, fun _ => ⟨a, b, by show m.cs.xs.length ≤ 8; omega, d, e⟩⟩)⟩
  · rintro ⟨_, h2 | h4 | ⟨_, a, b, c, d⟩⟩
    · exact absurd h2 (by show ¬ m.kind = 2; omega)
    · exact absurd h4 (by show ¬ m.kind = 4; omega)
    · obtain ⟨d1, d2, d3, d4, d5⟩ := d hk
      exact ⟨⟨a, b, c⟩, d1, d2, by have : m.cs.xs.length ≤ 8 := d3; omega, d4, d5⟩
theorem may_else {x : Rn} {m : Mh} (h1 : m.kind ≠ 1) (h2 : m.kind ≠ 2) (h3 : m.kind ≠ 3) (h4 : m.kind ≠ 4) : ¬ mailOk x.id x.n m.ml := by
  rintro ⟨_, h | h | ⟨h | h, _⟩⟩
  · exact h2 h
  · exact h4 h
  · exact h1 h
  · exact h3 h
theorem raft_may {w0 : World} {A : List HProp} {p c : Nat} {base : Option Addr} {vv pv : Value} {x : Rn} {m : Mh} (hml : m.cs.xs.length ≤ 9223372036854775807) [hc : CelAt A p (ncells x base c vv pv) 76] [hR : Reads w0 A m.cs.base (cvs m.cs.xs)] :
    Fun Try.prog w0 44 [.pointer (some ⟨p, 0, none⟩), .agg (mv m).toArray] A (Ret w0 (fun _ : Unit => True) (fun _ => .bool (decide (mailOk x.id x.n m.ml))) (fun _ => A)) := by
  refine Fun.enter Try.func44 rfl Try.ntmps44 rfl ?_
  refine WC.seq <| WC.region <| bxc (v := .agg _) (cs := [.int _ _, .int _ _, .int _ _, .int _ _, .int _ _, .int _ _, .int _ _, .bool _, .slice _ _ _]) rfl rfl fun b1 => sv (vaB rfl) <| WL.nil <| WX.thenN <| WC.seq <| ?_
  refine WC.cut0 [(55, .bool (decide (m.fr < 1 ∨ x.n < m.fr ∨ m.fr = x.id ∨ m.to_ ≠ x.id ∨ m.term < 1 ∨ (1000000000 : Int) < m.term ∨ m.index < 0 ∨ (10000 : Int) < m.index)))] [(3, _)] (cel b1 (mv m) 28 :: A) ⟨rfl, trivial⟩ ?_ fun ρh => ?_
  · -- raft.go:154
    refine WC.draws rfl (by kernel_rfl) <| qv (vfld fl28f1 rfl) <| qv (vldc pl3 rfl) <| qvs (vlt rfl rfl) (fun q1 => ?_) (fun q1 => ?_)
    ·
      exact qv (vmB rfl) <| qng rfl <| qng rfl <| qng rfl <| qng rfl <| qng rfl <| qng rfl <| qng rfl <| qv (vpkt rfl) <| qv (vmB rfl) <| qng rfl <| qng rfl <| qng rfl <| qng rfl <| qng rfl <| qng rfl <| qng rfl <| qv (vpkt rfl) <| qv (vmB rfl) <| qng rfl <| qng rfl <| qng rfl <| qng rfl <| qng rfl <| qng rfl <| qng rfl <| qv (vpkt rfl) <| qv (vmB rfl) <| qng rfl <| qng rfl <| qng rfl <| qv (vpkt rfl) <| qv (vmB rfl) <| qng rfl <| qng rfl <| qng rfl <| qv (vpkt rfl) <| qv (vmB rfl) <| qng rfl <| qng rfl <| qng rfl <| qv (vpkt rfl) <| qv (vmB rfl) <| qng rfl <| qng rfl <| qng rfl <| qv (vpkt rfl) <| WQ.nil <| WX.mid () trivial ⟨bT (by first | (unfold prevOk; by_cases ha : m.prev = 0 <;> by_cases hb : m.index = 0 <;> simp [ha, hb] <;> omega) | omega | simp_all | grind), trivial⟩ ⟨rfl, trivial⟩ (fun _ h => h)
    ·
      refine qv (vmB rfl) <| qvg rfl (vfld fl28f1 rfl) <| qvg rfl (vldc pl3 rfl) <| qvg rfl (vmP rfl) <| qvg rfl (vnil rfl) <| qvg rfl (vfld fl76f1 rfl) <| qvg rfl (vldc pl3 rfl) <| qvsg rfl (vgt rfl rfl) (fun q2 => ?_) (fun q2 => ?_)
      ·
        exact qv (vpkf rfl) <| qv (vmB rfl) <| qng rfl <| qng rfl <| qng rfl <| qng rfl <| qng rfl <| qng rfl <| qng rfl <| qv (vpkt rfl) <| qv (vmB rfl) <| qng rfl <| qng rfl <| qng rfl <| qng rfl <| qng rfl <| qng rfl <| qng rfl <| qv (vpkt rfl) <| qv (vmB rfl) <| qng rfl <| qng rfl <| qng rfl <| qv (vpkt rfl) <| qv (vmB rfl) <| qng rfl <| qng rfl <| qng rfl <| qv (vpkt rfl) <| qv (vmB rfl) <| qng rfl <| qng rfl <| qng rfl <| qv (vpkt rfl) <| qv (vmB rfl) <| qng rfl <| qng rfl <| qng rfl <| qv (vpkt rfl) <| WQ.nil <| WX.mid () trivial ⟨bT (by first | (unfold prevOk; by_cases ha : m.prev = 0 <;> by_cases hb : m.index = 0 <;> simp [ha, hb] <;> omega) | omega | simp_all | grind), trivial⟩ ⟨rfl, trivial⟩ (fun _ h => h)
      ·
        refine qv (vpkf rfl) <| qv (vmB rfl) <| qvg rfl (vfld fl28f1 rfl) <| qvg rfl (vldc pl3 rfl) <| qvg rfl (vmP rfl) <| qvg rfl (vnil rfl) <| qvg rfl (vfld fl76f0 rfl) <| qvg rfl (vldc pl3 rfl) <| qvsg rfl (veq rfl rfl) (fun q3 => ?_) (fun q3 => ?_)
        ·
          exact qv (vpkf rfl) <| qv (vmB rfl) <| qng rfl <| qng rfl <| qng rfl <| qng rfl <| qng rfl <| qng rfl <| qng rfl <| qv (vpkt rfl) <| qv (vmB rfl) <| qng rfl <| qng rfl <| qng rfl <| qv (vpkt rfl) <| qv (vmB rfl) <| qng rfl <| qng rfl <| qng rfl <| qv (vpkt rfl) <| qv (vmB rfl) <| qng rfl <| qng rfl <| qng rfl <| qv (vpkt rfl) <| qv (vmB rfl) <| qng rfl <| qng rfl <| qng rfl <| qv (vpkt rfl) <| WQ.nil <| WX.mid () trivial ⟨bT (by first | (unfold prevOk; by_cases ha : m.prev = 0 <;> by_cases hb : m.index = 0 <;> simp [ha, hb] <;> omega) | omega | simp_all | grind), trivial⟩ ⟨rfl, trivial⟩ (fun _ h => h)
        ·
          refine qv (vpkf rfl) <| qv (vmB rfl) <| qvg rfl (vfld fl28f2 rfl) <| qvg rfl (vldc pl3 rfl) <| qvg rfl (vmP rfl) <| qvg rfl (vnil rfl) <| qvg rfl (vfld fl76f0 rfl) <| qvg rfl (vldc pl3 rfl) <| qvsg rfl (vne rfl rfl) (fun q4 => ?_) (fun q4 => ?_)
          ·
            exact qv (vpkf rfl) <| qv (vmB rfl) <| qng rfl <| qng rfl <| qng rfl <| qv (vpkt rfl) <| qv (vmB rfl) <| qng rfl <| qng rfl <| qng rfl <| qv (vpkt rfl) <| qv (vmB rfl) <| qng rfl <| qng rfl <| qng rfl <| qv (vpkt rfl) <| qv (vmB rfl) <| qng rfl <| qng rfl <| qng rfl <| qv (vpkt rfl) <| WQ.nil <| WX.mid () trivial ⟨bT (by first | (unfold prevOk; by_cases ha : m.prev = 0 <;> by_cases hb : m.index = 0 <;> simp [ha, hb] <;> omega) | omega | simp_all | grind), trivial⟩ ⟨rfl, trivial⟩ (fun _ h => h)
          ·
            refine qv (vpkf rfl) <| qv (vmB rfl) <| qvg rfl (vfld fl28f3 rfl) <| qvg rfl (vldc pl3 rfl) <| qvsg rfl (vlt rfl rfl) (fun q5 => ?_) (fun q5 => ?_)
            ·
              exact qv (vpkf rfl) <| qv (vmB rfl) <| qng rfl <| qng rfl <| qng rfl <| qv (vpkt rfl) <| qv (vmB rfl) <| qng rfl <| qng rfl <| qng rfl <| qv (vpkt rfl) <| qv (vmB rfl) <| qng rfl <| qng rfl <| qng rfl <| qv (vpkt rfl) <| WQ.nil <| WX.mid () trivial ⟨bT (by first | (unfold prevOk; by_cases ha : m.prev = 0 <;> by_cases hb : m.index = 0 <;> simp [ha, hb] <;> omega) | omega | simp_all | grind), trivial⟩ ⟨rfl, trivial⟩ (fun _ h => h)
            ·
              refine qv (vpkf rfl) <| qv (vmB rfl) <| qvg rfl (vfld fl28f3 rfl) <| qvg rfl (vldc pl3 rfl) <| qvsg rfl (vgt rfl rfl) (fun q6 => ?_) (fun q6 => ?_)
              ·
                exact qv (vpkf rfl) <| qv (vmB rfl) <| qng rfl <| qng rfl <| qng rfl <| qv (vpkt rfl) <| qv (vmB rfl) <| qng rfl <| qng rfl <| qng rfl <| qv (vpkt rfl) <| WQ.nil <| WX.mid () trivial ⟨bT (by first | (unfold prevOk; by_cases ha : m.prev = 0 <;> by_cases hb : m.index = 0 <;> simp [ha, hb] <;> omega) | omega | simp_all | grind), trivial⟩ ⟨rfl, trivial⟩ (fun _ h => h)
              ·
                refine qv (vpkf rfl) <| qv (vmB rfl) <| qvg rfl (vfld fl28f4 rfl) <| qvg rfl (vldc pl3 rfl) <| qvsg rfl (vlt rfl rfl) (fun q7 => ?_) (fun q7 => ?_)
                ·
                  exact qv (vpkf rfl) <| qv (vmB rfl) <| qng rfl <| qng rfl <| qng rfl <| qv (vpkt rfl) <| WQ.nil <| WX.mid () trivial ⟨bT (by first | (unfold prevOk; by_cases ha : m.prev = 0 <;> by_cases hb : m.index = 0 <;> simp [ha, hb] <;> omega) | omega | simp_all | grind), trivial⟩ ⟨rfl, trivial⟩ (fun _ h => h)
                ·
                  exact qv (vpkf rfl) <| qv (vmB rfl) <| qvg rfl (vfld fl28f4 rfl) <| qvg rfl (vldc pl3 rfl) <| qvg rfl (vgt rfl rfl) <| qv (vpkf rfl) <| WQ.nil <| WX.mid () trivial ⟨bI (by first | (unfold prevOk; by_cases ha : m.prev = 0 <;> by_cases hb : m.index = 0 <;> simp [ha, hb] <;> omega) | omega | simp_all | grind), trivial⟩ ⟨rfl, trivial⟩ (fun _ h => h)
  refine WC.ite rfl (fun h1 => ?_) (fun h1 => ?_)
  · -- then
    exact WC.seq <| WC.region <| sv (vaB rfl) <| WL.nil <| WX.thenN <| WC.ret <| WX.thenR <| WX.ret1 rfl (()) (trivial) (bF (may_no (by unfold headOk; omega))) (fun _ h => h.tail)
  · -- else
    have hh : headOk x m := by unfold headOk; omega
    refine WC.skip <| WX.thenN <| ?_
    refine WC.cut0 [(5, .bool (decide (prevOk m)))] [(3, _)] (cel b1 (mv m) 28 :: A) ⟨rfl, trivial⟩ ?_ fun ρh => ?_
    · -- raft.go:157
      refine WC.region <| sv (vfld fl28f5 rfl) <| sv (vldc pl3 rfl) <| svs (vge rfl rfl) (fun q8 => ?_) (fun q8 => ?_)
      ·
        refine sv (vmB rfl) <| svg rfl (vfld fl28f5 rfl) <| svg rfl (vldc pl3 rfl) <| svg rfl (vfld fl28f3 rfl) <| svg rfl (vldc pl3 rfl) <| svsg rfl (vle rfl rfl) (fun q9 => ?_) (fun q9 => ?_)
        ·
          exact sv (vpkt rfl) <| sv (vmB rfl) <| svg rfl (vfld fl28f5 rfl) <| svg rfl (vldc pl3 rfl) <| svg rfl (veq rfl rfl) <| svg rfl (vfld fl28f4 rfl) <| svg rfl (vldc pl3 rfl) <| svg rfl (veq rfl rfl) <| svg rfl (veqb Try.underlying4 rfl rfl) <| sv (vpkt rfl) <| sv (vaB rfl) <| WL.nil <| WX.mid () trivial ⟨bI (by first | (unfold prevOk; by_cases ha : m.prev = 0 <;> by_cases hb : m.index = 0 <;> simp [ha, hb] <;> omega) | omega | simp_all | grind), trivial⟩ ⟨rfl, trivial⟩ (fun _ h => h)
        ·
          exact sv (vpkt rfl) <| sv (vmB rfl) <| sng rfl <| sng rfl <| sng rfl <| sng rfl <| sng rfl <| sng rfl <| sng rfl <| sv (vpkf rfl) <| sv (vaB rfl) <| WL.nil <| WX.mid () trivial ⟨bF (by first | (unfold prevOk; by_cases ha : m.prev = 0 <;> by_cases hb : m.index = 0 <;> simp [ha, hb] <;> omega) | omega | simp_all | grind), trivial⟩ ⟨rfl, trivial⟩ (fun _ h => h)
      ·
        exact sv (vmB rfl) <| sng rfl <| sng rfl <| sng rfl <| sng rfl <| sng rfl <| sv (vpkf rfl) <| sv (vmB rfl) <| sng rfl <| sng rfl <| sng rfl <| sng rfl <| sng rfl <| sng rfl <| sng rfl <| sv (vpkf rfl) <| sv (vaB rfl) <| WL.nil <| WX.mid () trivial ⟨bF (by first | (unfold prevOk; by_cases ha : m.prev = 0 <;> by_cases hb : m.index = 0 <;> simp [ha, hb] <;> omega) | omega | simp_all | grind), trivial⟩ ⟨rfl, trivial⟩ (fun _ h => h)
    refine WC.seq <| WC.seq <| WC.region <| sv (vfld fl28f0 rfl) <| sv (vldc pl3 rfl) <| WL.nil <| WX.thenN <| WC.block <| WC.seq <| WC.region <| sv (veq rfl rfl) <| sv (vaB rfl) <| WL.nil <| WX.thenN <| ?_
    refine WC.ite rfl (fun h2 => ?_) (fun h2 => ?_)
    · -- then
      exact WC.seq <| WC.region <| sv (vmB rfl) <| sv (vaB rfl) <| WL.nil <| WX.thenN <| WC.ret <| WX.blockR <| WX.thenR <| WX.ret1 rfl (()) (trivial) (bI (may_ask hh h2)) (fun _ h => h.tail)
    · -- else
      refine WC.seq <| WC.seq <| WC.region <| sv (veq rfl rfl) <| sv (vaB rfl) <| WL.nil <| WX.thenN <| ?_
      refine WC.ite rfl (fun h3 => ?_) (fun h3 => ?_)
      · -- then
        refine WC.skip <| WX.thenN <| ?_
        refine WC.ite rfl (fun h4 => ?_) (fun h4 => ?_)
        · -- then
          exact WC.seq <| WC.region <| sv (vaB rfl) <| WL.nil <| WX.thenN <| WC.ret <| WX.blockR <| WX.thenR <| WX.ret1 rfl (()) (trivial) (bT (may_two hh (.inl h3))) (fun _ h => h.tail)
        · -- else
          exact absurd h3 h4
      · -- else
        refine WC.region <| sv (veq rfl rfl) <| sv (vaB rfl) <| WL.nil <| WX.thenN <| ?_
        refine WC.ite rfl (fun h5 => ?_) (fun h5 => ?_)
        · -- then
          exact WC.seq <| WC.region <| sv (vaB rfl) <| WL.nil <| WX.thenN <| WC.ret <| WX.blockR <| WX.thenR <| WX.ret1 rfl (()) (trivial) (bT (may_two hh (.inr h5))) (fun _ h => h.tail)
        · -- else
          refine WC.seq <| WC.region <| sv (veq rfl rfl) <| sv (vaB rfl) <| WL.nil <| WX.thenN <| ?_
          refine WC.ite rfl (fun h6 => ?_) (fun h6 => ?_)
          · -- then
            refine WC.cut0 [(4, .bool (decide (prevOk m ∧ 0 ≤ m.commit ∧ m.commit ≤ 10000 ∧ (m.cs.xs.length : Int) ≤ 8 ∧ m.index + (m.cs.xs.length : Int) ≤ 10000 ∧ rises m.cs.xs m.prev m.term = true)))] [] (cel b1 (mv m) 28 :: A) trivial ?_ fun ρh => ?_
            · -- raft.go:164
              refine WC.region <| svb (vmB rfl) (fun q10 => ?_) (fun q10 => ?_)
              ·
                refine sv (vmB rfl) <| svg rfl (vfld fl28f6 rfl) <| svg rfl (vldc pl3 rfl) <| svsg rfl (vge rfl rfl) (fun q11 => ?_) (fun q11 => ?_)
                ·
                  refine sv (vpkt rfl) <| sv (vmB rfl) <| svg rfl (vfld fl28f6 rfl) <| svg rfl (vldc pl3 rfl) <| svsg rfl (vle rfl rfl) (fun q12 => ?_) (fun q12 => ?_)
                  ·
                    refine sv (vpkt rfl) <| sv (vmB rfl) <| svg rfl (vfld fl28f8 rfl) <| svg rfl (vldc pl22 rfl) <| svg rfl (vlen Try.underlying22 rfl) <| svsg rfl (vle rfl rfl) (fun q13 => ?_) (fun q13 => ?_)
                    ·
                      refine sv (vpkt rfl) <| sv (vmB rfl) <| svg rfl (vfld fl28f4 rfl) <| svg rfl (vldc pl3 rfl) <| svg rfl (vfld fl28f8 rfl) <| svg rfl (vldc pl22 rfl) <| svg rfl (vlen Try.underlying22 rfl) <| svg rfl (vadd rfl rfl (by omega)) <| svsg rfl (vle rfl rfl) (fun q14 => ?_) (fun q14 => ?_)
                      ·
                        exact sv (vpkt rfl) <| sv (vmB rfl) <| svg rfl (vfld fl28f8 rfl) <| svg rfl (vldc pl22 rfl) <| svg rfl (vfld fl28f5 rfl) <| svg rfl (vldc pl3 rfl) <| svg rfl (vfld fl28f3 rfl) <| svg rfl (vldc pl3 rfl) <| gy rfl <| cl (raft_rising hml) ct32 rfl fun _ _ => sv (vpkt rfl) <| sv (vaB rfl) <| WL.nil <| WX.mid () trivial ⟨bB ⟨fun h => ⟨by simp_all, by omega, by omega, by omega, by omega, h⟩, fun h => h.2.2.2.2.2⟩, trivial⟩ trivial (fun _ h => h)
                      ·
                        exact sv (vpkt rfl) <| sv (vmB rfl) <| sng rfl <| sng rfl <| sng rfl <| sng rfl <| sng rfl <| sng rfl <| sng rfl <| sv (vpkf rfl) <| sv (vaB rfl) <| WL.nil <| WX.mid () trivial ⟨bF (by first | (unfold prevOk; by_cases ha : m.prev = 0 <;> by_cases hb : m.index = 0 <;> simp [ha, hb] <;> omega) | omega | simp_all | grind), trivial⟩ trivial (fun _ h => h)
                    ·
                      exact sv (vpkt rfl) <| sv (vmB rfl) <| sng rfl <| sng rfl <| sng rfl <| sng rfl <| sng rfl <| sng rfl <| sng rfl <| sv (vpkf rfl) <| sv (vmB rfl) <| sng rfl <| sng rfl <| sng rfl <| sng rfl <| sng rfl <| sng rfl <| sng rfl <| sv (vpkf rfl) <| sv (vaB rfl) <| WL.nil <| WX.mid () trivial ⟨bF (by first | (unfold prevOk; by_cases ha : m.prev = 0 <;> by_cases hb : m.index = 0 <;> simp [ha, hb] <;> omega) | omega | simp_all | grind), trivial⟩ trivial (fun _ h => h)
                  ·
                    exact sv (vpkt rfl) <| sv (vmB rfl) <| sng rfl <| sng rfl <| sng rfl <| sng rfl <| sv (vpkf rfl) <| sv (vmB rfl) <| sng rfl <| sng rfl <| sng rfl <| sng rfl <| sng rfl <| sng rfl <| sng rfl <| sv (vpkf rfl) <| sv (vmB rfl) <| sng rfl <| sng rfl <| sng rfl <| sng rfl <| sng rfl <| sng rfl <| sng rfl <| sv (vpkf rfl) <| sv (vaB rfl) <| WL.nil <| WX.mid () trivial ⟨bF (by first | (unfold prevOk; by_cases ha : m.prev = 0 <;> by_cases hb : m.index = 0 <;> simp [ha, hb] <;> omega) | omega | simp_all | grind), trivial⟩ trivial (fun _ h => h)
                ·
                  exact sv (vpkt rfl) <| sv (vmB rfl) <| sng rfl <| sng rfl <| sng rfl <| sv (vpkf rfl) <| sv (vmB rfl) <| sng rfl <| sng rfl <| sng rfl <| sng rfl <| sv (vpkf rfl) <| sv (vmB rfl) <| sng rfl <| sng rfl <| sng rfl <| sng rfl <| sng rfl <| sng rfl <| sng rfl <| sv (vpkf rfl) <| sv (vmB rfl) <| sng rfl <| sng rfl <| sng rfl <| sng rfl <| sng rfl <| sng rfl <| sng rfl <| sv (vpkf rfl) <| sv (vaB rfl) <| WL.nil <| WX.mid () trivial ⟨bF (by first | (unfold prevOk; by_cases ha : m.prev = 0 <;> by_cases hb : m.index = 0 <;> simp [ha, hb] <;> omega) | omega | simp_all | grind), trivial⟩ trivial (fun _ h => h)
              ·
                exact sv (vmB rfl) <| sng rfl <| sng rfl <| sng rfl <| sv (vpkf rfl) <| sv (vmB rfl) <| sng rfl <| sng rfl <| sng rfl <| sv (vpkf rfl) <| sv (vmB rfl) <| sng rfl <| sng rfl <| sng rfl <| sng rfl <| sv (vpkf rfl) <| sv (vmB rfl) <| sng rfl <| sng rfl <| sng rfl <| sng rfl <| sng rfl <| sng rfl <| sng rfl <| sv (vpkf rfl) <| sv (vmB rfl) <| sng rfl <| sng rfl <| sng rfl <| sng rfl <| sng rfl <| sng rfl <| sng rfl <| sv (vpkf rfl) <| sv (vaB rfl) <| WL.nil <| WX.mid () trivial ⟨bF (by first | (unfold prevOk; by_cases ha : m.prev = 0 <;> by_cases hb : m.index = 0 <;> simp [ha, hb] <;> omega) | omega | simp_all | grind), trivial⟩ trivial (fun _ h => h)
            exact WC.ret <| WX.blockR <| WX.thenR <| WX.ret1 rfl (()) (trivial) (bI (may_three hh h6)) (fun _ h => h.tail)
          · -- else
            exact WC.skip <| WX.blockN <| WX.thenN <| WC.seq <| WC.region <| sv (vaB rfl) <| WL.nil <| WX.thenN <| WC.ret <| WX.ret1 rfl (()) (trivial) (bF (may_else h2 h3 h6 h5)) (fun _ h => h.tail)
end Go.Proofs.Ytekoilhjlofncaa
