/-
  Layer 19: a mail, whatever it is.
-/
import Derived.Test.YtekoilhjlofncaaRaftTake
import Derived.Test.YtekoilhjlofncaaRaftInv
import Derived.Test.YtekoilhjlofncaaSlAuto
set_option linter.unusedVariables false
set_option linter.unusedSimpArgs false
set_option maxRecDepth 4000
namespace Go.Proofs.Ytekoilhjlofncaa
open Go.Sl Go.RowKit Go.Raft

theorem iv' {b : Option Addr} {k l c : Nat} (h : k = l) : Value.slice b k c = .slice b l c := by rw [h]
theorem step_id {x : Rn} {m : Ml} : (stepS m x).id = x.id ∧ (stepS m x).n = x.n := by unfold stepS; split <;> exact ⟨rfl, rfl⟩
theorem step_others {x : Rn} {m : Ml} : others (stepS m x) = others x := by unfold others; rw [step_id.1, step_id.2]
theorem mail_kind {id n : Int} {m : Ml} (h : mailOk id n m) : m.kind = 1 ∨ m.kind = 2 ∨ m.kind = 3 ∨ m.kind = 4 := by
  rcases h.2 with h | h | ⟨h | h, _⟩
  · exact .inr (.inl h)
  · exact .inr (.inr (.inr h))
  · exact .inl h
  · exact .inr (.inr (.inl h))
theorem mail_oth {x : Rn} {m : Ml} (hx : RInv x) (hm : mailOk x.id x.n m) : m.fr ∈ others x := oth_mem.2 ⟨hm.1.1, by have h1 := hx.n; have h2 := hm.1.2.1; omega, hm.1.2.2.1⟩
theorem raft_take {w0 : World} {A : List HProp} {p : Nat} {x : Rn} {m : Mh} (hx : RInv x) (hml : m.cs.xs.length ≤ 9223372036854775807) (hcc : m.cs.xs.length ≤ m.cs.cap) [hR : Reads w0 A m.cs.base (cvs m.cs.xs)] :
    Fun Try.prog w0 17 [.pointer (some ⟨p, 0, none⟩), .agg (mv m).toArray] (hnode p x :: A) (MR w0 p A (takeS x m.ml)) := by
  refine Fun.ex (fun w h => hnode_open h) ?_
  rintro ⟨base, c, vv, pv⟩ hc
  dsimp only at hc ⊢
  unfold MR
  refine Fun.enter Try.func17 rfl Try.ntmps17 rfl ?_
  refine WC.seq <| WC.region <| bxc (v := .agg _) (cs := [.int _ _, .int _ _, .int _ _, .int _ _, .int _ _, .int _ _, .int _ _, .bool _, .slice _ _ _]) rfl rfl fun b1 => sv (vaS rfl) <| WL.nil <| WX.thenN <| WC.seq <| ?_
  refine WC.cut0 [(13, .bool (decide (¬ mailOk x.id x.n m.ml)))] [(0, .pointer _), (3, _)] (cel b1 (mv m) 28 :: cel p (ncells x base c vv pv) 76 :: row base c 2 39 (cvs x.log) :: extraC x vv pv :: A) ⟨rfl, rfl, trivial⟩ ?_ fun ρh => ?_
  · -- raft.go:171
    refine WC.region <| sv (vmP rfl) <| sv (vpeqF Try.underlying32 rfl rfl) <| sv (vmB rfl) <| svg rfl (vmP rfl) <| svg rfl (vldac ag28 sz28 rfl rfl (by decide)) <| gy rfl <| clx (by repeat' (first | with_reducible exact Sb.all | exact Sb.nil | (apply Sb.cons; focus (first | ((repeat (first | with_reducible exact Tk.here | with_reducible apply Tk.there)); done) | ((repeat (first | exact Tk.here | apply Tk.there)); done))) | apply Sb.drop)) (raft_may (x := x) (base := base) (c := c) (vv := vv) (pv := pv) hml) ct44 rfl fun _ _ => ?_
    exact svg rfl (vnot rfl) <| sv (vpkf rfl) <| WL.nil <| WX.mid () trivial ⟨bB (by simp), trivial⟩ ⟨rfl, rfl, trivial⟩ (fun _ h => Sb.own (by repeat' (first | with_reducible exact Sb.all | exact Sb.nil | (apply Sb.cons; focus (first | ((repeat (first | with_reducible exact Tk.here | with_reducible apply Tk.there)); done) | ((repeat (first | exact Tk.here | apply Tk.there)); done))) | apply Sb.drop)) h)
  refine WC.ite rfl (fun h1 => ?_) (fun h1 => ?_)
  · -- then
    rw [show takeS x m.ml = (x, []) from if_neg h1]
    exact WC.seq <| WC.region <| sv (vaS rfl) <| WL.nil <| WX.thenN <| WC.ret <| WX.thenR <| WX.ret1 rfl ((none, 0, [])) (⟨rfl, Nat.le_refl _⟩) rfl (fun w h => no_mails (hnode_mk hc (Sb.own (by repeat' (first | with_reducible exact Sb.all | exact Sb.nil | (apply Sb.cons; focus (first | ((repeat (first | with_reducible exact Tk.here | with_reducible apply Tk.there)); done) | ((repeat (first | exact Tk.here | apply Tk.there)); done))) | apply Sb.drop)) h)))
  · -- else
    have hm : mailOk x.id x.n m.ml := Decidable.not_not.1 h1
    have hx2 := RInv.step hx hm
    have hm2 : mailOk (stepS m.ml x).id (stepS m.ml x).n m.ml := by rw [step_id.1, step_id.2]; exact hm
    have ht : takeS x m.ml = _ := if_pos hm
    refine WC.skip <| WX.thenN <| ?_
    refine WC.cutv (ι := Unit) (fun i => []) [(0, .pointer _), (3, _)] (fun i => cel b1 (mv m) 28 :: hnode p (stepS m.ml x) :: A) (fun i => True) ⟨rfl, rfl, trivial⟩ ?_ ?_
    · -- up to the join
      refine WC.seq <| WC.draws rfl (by kernel_rfl) <| qv (vfldp fl28f3 rfl) <| qv (vldc pl3 rfl) <| qv (vmP rfl) <| qv (vnil rfl) <| qv (vfldp fl76f2 rfl) <| qv (vldc pl3 rfl) <| qv (vgt rfl rfl) <| WQ.nil <| WX.thenN <| ?_
      refine WC.ite rfl (fun h2 => ?_) (fun h2 => ?_)
      · -- then
        exact WC.region <| sv (vmP rfl) <| sv (vmP rfl) <| sv (vmP rfl) <| sv (vmP rfl) <| sv (vfldp fl28f3 rfl) <| sv (vldc pl3 rfl) <| sv (vnil rfl) <| sv (vfldp fl76f2 rfl) <| stp (v := .int _ _) pl3 sz3 rfl rfl rfl <| sv (vnil rfl) <| sv (vfldp fl76f3 rfl) <| stp (v := .int _ _) pl3 sz3 rfl rfl rfl <| sv (vnil rfl) <| sv (vfldp fl76f5 rfl) <| stp (v := .int _ _) pl3 sz3 rfl rfl rfl <| sv (vnil rfl) <| sv (vfldp fl76f6 rfl) <| stp (v := .int _ _) pl3 sz3 rfl rfl rfl <| WL.nil <| WX.mid (()) (trivial) trivial ⟨rfl, rfl, trivial⟩ (fun w h => (hnode_mk0 (x := stepS m.ml x) (by unfold stepS; rw [if_pos (by exact h2)]; show ¬ (0 : Int) = 1; decide) (by unfold stepS; rw [if_pos (by exact h2)]; show ¬ (0 : Int) = 2; decide) (by unfold stepS; rw [if_pos (by exact h2)]; exact hc) (by unfold stepS; rw [if_pos (by exact h2)]; exact Sb.own (by repeat' (first | with_reducible exact Sb.all | exact Sb.nil | (apply Sb.cons; focus (first | ((repeat (first | with_reducible exact Tk.here | with_reducible apply Tk.there)); done) | ((repeat (first | exact Tk.here | apply Tk.there)); done))) | apply Sb.drop)) h)).pk1)
      · -- else
        exact WC.skip <| WX.mid (()) (trivial) trivial ⟨rfl, rfl, trivial⟩ (fun w h => (hnode_mk (x := stepS m.ml x) (by unfold stepS; rw [if_neg (by exact h2)]; exact hc) (by unfold stepS; rw [if_neg (by exact h2)]; exact Sb.own (by repeat' (first | with_reducible exact Sb.all | exact Sb.nil | (apply Sb.cons; focus (first | ((repeat (first | with_reducible exact Tk.here | with_reducible apply Tk.there)); done) | ((repeat (first | exact Tk.here | apply Tk.there)); done))) | apply Sb.drop)) h)).pk1)
    · -- behind the join
      intro _ _ ρh
      rcases mail_kind hm with hk | hk | hk | hk
      · -- a
        rw [show takeS x m.ml = askedS (stepS m.ml x) m.ml from ht.trans (if_pos hk)]
        refine WC.seq <| WC.region <| mkm (.int .i64) fun b12 => insp (k := (.int .i64 1)) (v := _) Try.underlying83 Try.underlying3 rfl rfl rfl rfl (.new (by simp)) ?_
        refine insp (k := (.int .i64 2)) (v := _) Try.underlying83 Try.underlying3 rfl rfl rfl rfl (.new (by simp)) ?_
        refine insp (k := (.int .i64 3)) (v := _) Try.underlying83 Try.underlying3 rfl rfl rfl rfl (.new (by simp)) ?_
        refine insp (k := (.int .i64 4)) (v := _) Try.underlying83 Try.underlying3 rfl rfl rfl rfl (.new (by simp)) ?_
        refine sv (vmM rfl) <| sv (vaM rfl) <| WL.nil <| WX.thenN <| WC.seq <| WC.region <| sv (vmM rfl) <| sv (vfldpz fl28f0 rfl) <| sv (vldc pl3 rfl) <| sv (vlk Try.underlying83 Try.underlying3 rfl rfl rfl (j := 0) (by rw [show m.kind = 1 from hk]; rfl)) <| sv (vmP rfl) <| sv (vldac ag28 sz28 rfl rfl (by decide)) <| clvxz (by repeat' (first | with_reducible exact Sb.all | exact Sb.nil | (apply Sb.cons; focus (first | ((repeat (first | with_reducible exact Tk.here | with_reducible apply Tk.there)); done) | ((repeat (first | exact Tk.here | apply Tk.there)); done))) | apply Sb.drop)) (raft_asked hx2) ct45 rfl rfl fun r20 hr20 => ?_
        exact sv (vaS rfl) <| WL.nil <| WX.thenN <| WC.ret <| WX.ret1 rfl (r20) (hr20) rfl (fun _ h => Sb.own (by repeat' (first | with_reducible exact Sb.all | exact Sb.nil | (apply Sb.cons; focus (first | ((repeat (first | with_reducible exact Tk.here | with_reducible apply Tk.there)); done) | ((repeat (first | exact Tk.here | apply Tk.there)); done))) | apply Sb.drop)) h)
      · -- b
        rw [show takeS x m.ml = votesS (stepS m.ml x) m.ml from ht.trans ((if_neg (by omega)).trans (if_pos hk))]
        refine WC.seq <| WC.region <| mkm (.int .i64) fun b12 => insp (k := (.int .i64 1)) (v := _) Try.underlying83 Try.underlying3 rfl rfl rfl rfl (.new (by simp)) ?_
        refine insp (k := (.int .i64 2)) (v := _) Try.underlying83 Try.underlying3 rfl rfl rfl rfl (.new (by simp)) ?_
        refine insp (k := (.int .i64 3)) (v := _) Try.underlying83 Try.underlying3 rfl rfl rfl rfl (.new (by simp)) ?_
        refine insp (k := (.int .i64 4)) (v := _) Try.underlying83 Try.underlying3 rfl rfl rfl rfl (.new (by simp)) ?_
        refine sv (vmM rfl) <| sv (vaM rfl) <| WL.nil <| WX.thenN <| WC.seq <| WC.region <| sv (vmM rfl) <| sv (vfldpz fl28f0 rfl) <| sv (vldc pl3 rfl) <| sv (vlk Try.underlying83 Try.underlying3 rfl rfl rfl (j := 1) (by rw [show m.kind = 2 from hk]; rfl)) <| sv (vmP rfl) <| sv (vldac ag28 sz28 rfl rfl (by decide)) <| clvxz (by repeat' (first | with_reducible exact Sb.all | exact Sb.nil | (apply Sb.cons; focus (first | ((repeat (first | with_reducible exact Tk.here | with_reducible apply Tk.there)); done) | ((repeat (first | exact Tk.here | apply Tk.there)); done))) | apply Sb.drop)) (raft_votes hx2) ct46 rfl rfl fun r20 hr20 => ?_
        exact sv (vaS rfl) <| WL.nil <| WX.thenN <| WC.ret <| WX.ret1 rfl (r20) (hr20) rfl (fun _ h => Sb.own (by repeat' (first | with_reducible exact Sb.all | exact Sb.nil | (apply Sb.cons; focus (first | ((repeat (first | with_reducible exact Tk.here | with_reducible apply Tk.there)); done) | ((repeat (first | exact Tk.here | apply Tk.there)); done))) | apply Sb.drop)) h)
      · -- c
        rw [show takeS x m.ml = fedS (stepS m.ml x) m.ml from ht.trans ((if_neg (by omega)).trans ((if_neg (by omega)).trans (if_pos hk)))]
        refine WC.seq <| WC.region <| mkm (.int .i64) fun b12 => insp (k := (.int .i64 1)) (v := _) Try.underlying83 Try.underlying3 rfl rfl rfl rfl (.new (by simp)) ?_
        refine insp (k := (.int .i64 2)) (v := _) Try.underlying83 Try.underlying3 rfl rfl rfl rfl (.new (by simp)) ?_
        refine insp (k := (.int .i64 3)) (v := _) Try.underlying83 Try.underlying3 rfl rfl rfl rfl (.new (by simp)) ?_
        refine insp (k := (.int .i64 4)) (v := _) Try.underlying83 Try.underlying3 rfl rfl rfl rfl (.new (by simp)) ?_
        refine sv (vmM rfl) <| sv (vaM rfl) <| WL.nil <| WX.thenN <| WC.seq <| WC.region <| sv (vmM rfl) <| sv (vfldpz fl28f0 rfl) <| sv (vldc pl3 rfl) <| sv (vlk Try.underlying83 Try.underlying3 rfl rfl rfl (j := 2) (by rw [show m.kind = 3 from hk]; rfl)) <| sv (vmP rfl) <| sv (vldac ag28 sz28 rfl rfl (by decide)) <| clvxz (by repeat' (first | with_reducible exact Sb.all | exact Sb.nil | (apply Sb.cons; focus (first | ((repeat (first | with_reducible exact Tk.here | with_reducible apply Tk.there)); done) | ((repeat (first | exact Tk.here | apply Tk.there)); done))) | apply Sb.drop)) (raft_fed hx2 hm2 hk hcc) ct47 rfl rfl fun r20 hr20 => ?_
        exact sv (vaS rfl) <| WL.nil <| WX.thenN <| WC.ret <| WX.ret1 rfl (r20) (hr20) rfl (fun _ h => Sb.own (by repeat' (first | with_reducible exact Sb.all | exact Sb.nil | (apply Sb.cons; focus (first | ((repeat (first | with_reducible exact Tk.here | with_reducible apply Tk.there)); done) | ((repeat (first | exact Tk.here | apply Tk.there)); done))) | apply Sb.drop)) h)
      · -- d
        rw [show takeS x m.ml = answeredS (stepS m.ml x) m.ml from ht.trans ((if_neg (by omega)).trans ((if_neg (by omega)).trans (if_neg (by omega))))]
        refine WC.seq <| WC.region <| mkm (.int .i64) fun b12 => insp (k := (.int .i64 1)) (v := _) Try.underlying83 Try.underlying3 rfl rfl rfl rfl (.new (by simp)) ?_
        refine insp (k := (.int .i64 2)) (v := _) Try.underlying83 Try.underlying3 rfl rfl rfl rfl (.new (by simp)) ?_
        refine insp (k := (.int .i64 3)) (v := _) Try.underlying83 Try.underlying3 rfl rfl rfl rfl (.new (by simp)) ?_
        refine insp (k := (.int .i64 4)) (v := _) Try.underlying83 Try.underlying3 rfl rfl rfl rfl (.new (by simp)) ?_
        refine sv (vmM rfl) <| sv (vaM rfl) <| WL.nil <| WX.thenN <| WC.seq <| WC.region <| sv (vmM rfl) <| sv (vfldpz fl28f0 rfl) <| sv (vldc pl3 rfl) <| sv (vlk Try.underlying83 Try.underlying3 rfl rfl rfl (j := 3) (by rw [show m.kind = 4 from hk]; rfl)) <| sv (vmP rfl) <| sv (vldac ag28 sz28 rfl rfl (by decide)) <| clvxz (by repeat' (first | with_reducible exact Sb.all | exact Sb.nil | (apply Sb.cons; focus (first | ((repeat (first | with_reducible exact Tk.here | with_reducible apply Tk.there)); done) | ((repeat (first | exact Tk.here | apply Tk.there)); done))) | apply Sb.drop)) (raft_answered hx2 (by rw [step_others]; exact mail_oth hx hm) hm.1.2.2.2.2.2.2.1) ct48 rfl rfl fun r20 hr20 => ?_
        exact sv (vaS rfl) <| WL.nil <| WX.thenN <| WC.ret <| WX.ret1 rfl (r20) (hr20) rfl (fun _ h => Sb.own (by repeat' (first | with_reducible exact Sb.all | exact Sb.nil | (apply Sb.cons; focus (first | ((repeat (first | with_reducible exact Tk.here | with_reducible apply Tk.there)); done) | ((repeat (first | exact Tk.here | apply Tk.there)); done))) | apply Sb.drop)) h)
end Go.Proofs.Ytekoilhjlofncaa
