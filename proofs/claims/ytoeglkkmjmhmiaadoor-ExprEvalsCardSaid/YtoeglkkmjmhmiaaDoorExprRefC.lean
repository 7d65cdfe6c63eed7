/-
  Layer 4: the document's words.
-/
import Derived.Test.YtoeglkkmjmhmiaaDoorExprRefB
set_option linter.unusedVariables false
set_option linter.unusedSimpArgs false
set_option maxRecDepth 4000
namespace Go.Proofs.YtoeglkkmjmhmiaaDoor
open Go.Sl Go.RowKit Go.Expr Go.Shelf

theorem bs_get {l : List UInt8} {i : Int} {n : Nat} (hn : n < l.length) (hi : i = n) : (bs l)[i.toNat]? = some (l.getD n 0) :=
  suf_get (S := bs l) (l := l) (n := n) (List.suffix_refl _) hn (by show i = (((l.length - l.length : Nat) : Int)) + n; omega)
theorem bs_get0 {l : List UInt8} (hn : 0 < l.length) : (bs l)[(0 : Int).toNat]? = some (l.headD 0) := by
  rw [bs_get (i := 0) (n := 0) hn rfl, getD0]
theorem bs_take {l : List UInt8} {i : Int} {n : Nat} (hn : n ≤ l.length) (hi : i = n) : (bs l).extract 0 i.toNat = bs (l.take n) := by
  have := suf_extract (S := bs l) (l := l) (i := 0) (j := i) (n := n) (List.suffix_refl _) hn (by show (0 : Int) = ((l.length - l.length : Nat) : Int); omega) (by omega)
  exact this
theorem wordS_wd {l : List UInt8} (h1 : runL isDig l = 0) (h2 : runL isLet l = 0) : wordS l = (wd l).bytes := by
  unfold wordS
  rw [if_neg (by omega), if_neg (by omega)]
theorem nmp_iff {c : UInt8} : NmP c ↔ ((c.toNat : Int) = 110 ∨ (c.toNat : Int) = 116 ∨ (c.toNat : Int) = 118) := by
  constructor
  · rintro (rfl | rfl | rfl)
    · exact .inl rfl
    · exact .inr (.inl rfl)
    · exact .inr (.inr rfl)
  · rintro (h | h | h)
    · exact .inl (u8k (k := 110) h)
    · exact .inr (.inl (u8k (k := 116) h))
    · exact .inr (.inr (u8k (k := 118) h))
theorem headD_take {l : List UInt8} (h : 0 < l.length) : l.take 1 = [l.headD 0] := take1 h
theorem wd1_none (a : UInt8) : (wd1 a ≠ .none_) ↔ (a = 60 ∨ a = 62 ∨ a = 43 ∨ a = 45 ∨ a = 42 ∨ a = 47 ∨ a = 37 ∨ a = 33 ∨ a = 40 ∨ a = 41) := by
  unfold wd1
  repeat' split
  all_goals simp_all
theorem ref_word {w0 : World} {A : List HProp} {l : List UInt8} (hl : l.length ≤ 4611686018427387903) : Fun Tryd.prog w0 22 [.string (bs l)] A (Ret w0 (fun _ : Unit => True) (fun _ => .string (bs (wordS l))) (fun _ => A)) := by
  have hsz : (bs l).size = l.length := rfl
  have hrd := runL_le isDig l
  have hrl := runL_le isLet l
  refine Fun.enter Tryd.func22 rfl Tryd.ntmps22 rfl ?_
  refine WC.seq <| WC.region <| sv (vaT rfl) <| WL.nil <| WX.thenN <| WC.seq <| WC.region <| sv (vaI rfl) <| WL.nil <| WX.thenN <| WC.seq <| WC.block <| ?_
  refine WC.loopS (ι := Nat) (fun i => [(3, .int .i64 i)]) [(0, .string _)] (fun i => i ≤ runL isDig l) (fun i => runL isDig l - i) (0) (by omega) ⟨rfl, trivial⟩ ⟨rfl, trivial⟩ ?_
  intro i hi ρh
  refine WC.seq <| ?_
  refine WC.cutS [(13, .bool (decide (i < runL isDig l)))] [(0, .string _), (3, .int _ _)] ⟨rfl, rfl, trivial⟩ ?_ fun ρh => ?_
  · -- ref.go:28
    refine WC.region <| sv (vmI rfl) <| sv (vmT rfl) <| sv (vlens Tryd.underlying9 rfl) <| svs (vlt rfl rfl) (fun q1 => ?_) (fun q1 => ?_)
    ·
      refine sv (vmB rfl) <| svg rfl (vmT rfl) <| svg rfl (vmI rfl) <| svg rfl (vixs Tryd.underlying9 rfl rfl (by omega) (bs_get (n := i) (by omega) rfl)) <| gy rfl <| clx (by repeat' (first | with_reducible exact Sb.all | exact Sb.nil | (apply Sb.cons; focus (first | ((repeat (first | with_reducible exact Tk.here | with_reducible apply Tk.there)); done) | ((repeat (first | exact Tk.here | apply Tk.there)); done))) | apply Sb.drop)) (ref_digit) ct23 rfl fun r2 hr2 => ?_
      exact sv (vpkt rfl) <| WL.nil <| WX.mid () trivial ⟨bB (by rw [runL_lt hi]; exact ⟨fun h => ⟨by omega, h⟩, fun h => h.2⟩), trivial⟩ ⟨rfl, rfl, trivial⟩ (fun _ h => Sb.own (by repeat' (first | with_reducible exact Sb.all | exact Sb.nil | (apply Sb.cons; focus (first | ((repeat (first | with_reducible exact Tk.here | with_reducible apply Tk.there)); done) | ((repeat (first | exact Tk.here | apply Tk.there)); done))) | apply Sb.drop)) h)
    ·
      exact sv (vmB rfl) <| sng rfl <| sng rfl <| sng rfl <| sng rfl <| sv (vpkf rfl) <| WL.nil <| WX.mid () trivial ⟨bF (by rw [runL_lt hi]; omega), trivial⟩ ⟨rfl, rfl, trivial⟩ (fun _ h => Sb.own (by repeat' (first | with_reducible exact Sb.all | exact Sb.nil | (apply Sb.cons; focus (first | ((repeat (first | with_reducible exact Tk.here | with_reducible apply Tk.there)); done) | ((repeat (first | exact Tk.here | apply Tk.there)); done))) | apply Sb.drop)) h)
  refine WC.ite rfl (fun h1 => ?_) (fun h1 => ?_)
  · -- then
    exact WC.skip <| WX.thenN <| WC.block <| WC.region <| sv (vmI rfl) <| sv (vadd rfl rfl (by omega)) <| sv (vaI rfl) <| WL.nil <| WX.blockN <| WX.again (i + 1) (by omega) (by omega) ⟨rfl, trivial⟩ ⟨rfl, trivial⟩ (fun _ h => Sb.own (by repeat' (first | with_reducible exact Sb.all | exact Sb.nil | (apply Sb.cons; focus (first | ((repeat (first | with_reducible exact Tk.here | with_reducible apply Tk.there)); done) | ((repeat (first | exact Tk.here | apply Tk.there)); done))) | apply Sb.drop)) h)
  · -- else
    have hir : i = runL isDig l := by omega
    refine WC.exit <| WX.thenE <| WX.thenE <| WX.blockH <| WX.thenN <| WC.seq <| WC.seq <| WC.region <| sv (vmI rfl) <| sv (vgt rfl rfl) <| WL.nil <| WX.thenN <| ?_
    refine WC.ite rfl (fun h2 => ?_) (fun h2 => ?_)
    · -- then
      refine WC.seq <| WC.seq <| WC.region <| sv (vmI rfl) <| sv (vgt rfl rfl) <| WL.nil <| WX.thenN <| ?_
      refine WC.ite rfl (fun h3 => ?_) (fun h3 => ?_)
      · -- then
        exact WC.seq <| WC.region <| sv (vaT rfl) <| WL.nil <| WX.thenN <| WC.ret <| WX.thenR <| WX.thenR <| WX.ret1 rfl (()) (trivial) (show Value.string (bs []) = _ by unfold wordS; rw [if_pos (by omega), if_pos (by omega)]) (fun _ h => Sb.own (by repeat' (first | with_reducible exact Sb.all | exact Sb.nil | (apply Sb.cons; focus (first | ((repeat (first | with_reducible exact Tk.here | with_reducible apply Tk.there)); done) | ((repeat (first | exact Tk.here | apply Tk.there)); done))) | apply Sb.drop)) h)
      · -- else
        exact WC.skip <| WX.thenN <| WC.seq <| WC.region <| sv (vmT rfl) <| sv (vmI rfl) <| sv (vw (v' := .string (bs (wordS l))) (vsslH Tryd.underlying9 rfl rfl (by omega) (by omega)) (by rw [bs_take (i := i) (n := i) (by omega) rfl]; unfold wordS; rw [if_pos (by omega), if_neg (by omega), hir])) <| sv (vaT rfl) <| WL.nil <| WX.thenN <| WC.ret <| WX.thenR <| WX.ret1 rfl (()) (trivial) rfl (fun _ h => Sb.own (by repeat' (first | with_reducible exact Sb.all | exact Sb.nil | (apply Sb.cons; focus (first | ((repeat (first | with_reducible exact Tk.here | with_reducible apply Tk.there)); done) | ((repeat (first | exact Tk.here | apply Tk.there)); done))) | apply Sb.drop)) h)
    · -- else
      have hd0 : runL isDig l = 0 := by omega
      refine WC.skip <| WX.thenN <| WC.seq <| WC.block <| ?_
      refine WC.loopS (ι := Nat) (fun j => [(3, .int .i64 j)]) [(0, .string _)] (fun j => j ≤ runL isLet l) (fun j => runL isLet l - j) (0) (by omega) ⟨iv (by omega), trivial⟩ ⟨rfl, trivial⟩ ?_
      intro j hj ρh
      refine WC.seq <| ?_
      refine WC.cutS [(32, .bool (decide (j < runL isLet l)))] [(0, .string _), (3, .int _ _)] ⟨rfl, rfl, trivial⟩ ?_ fun ρh => ?_
      · -- ref.go:37
        refine WC.region <| sv (vmI rfl) <| sv (vmT rfl) <| sv (vlens Tryd.underlying9 rfl) <| svs (vlt rfl rfl) (fun q2 => ?_) (fun q2 => ?_)
        ·
          refine sv (vmB rfl) <| svg rfl (vmT rfl) <| svg rfl (vmI rfl) <| svg rfl (vixs Tryd.underlying9 rfl rfl (by omega) (bs_get (n := j) (by omega) rfl)) <| gy rfl <| clx (by repeat' (first | with_reducible exact Sb.all | exact Sb.nil | (apply Sb.cons; focus (first | ((repeat (first | with_reducible exact Tk.here | with_reducible apply Tk.there)); done) | ((repeat (first | exact Tk.here | apply Tk.there)); done))) | apply Sb.drop)) (ref_letter) ct34 rfl fun r6 hr6 => ?_
          exact sv (vpkt rfl) <| WL.nil <| WX.mid () trivial ⟨bB (by rw [runL_lt hj]; exact ⟨fun h => ⟨by omega, h⟩, fun h => h.2⟩), trivial⟩ ⟨rfl, rfl, trivial⟩ (fun _ h => Sb.own (by repeat' (first | with_reducible exact Sb.all | exact Sb.nil | (apply Sb.cons; focus (first | ((repeat (first | with_reducible exact Tk.here | with_reducible apply Tk.there)); done) | ((repeat (first | exact Tk.here | apply Tk.there)); done))) | apply Sb.drop)) h)
        ·
          exact sv (vmB rfl) <| sng rfl <| sng rfl <| sng rfl <| sng rfl <| sv (vpkf rfl) <| WL.nil <| WX.mid () trivial ⟨bF (by rw [runL_lt hj]; omega), trivial⟩ ⟨rfl, rfl, trivial⟩ (fun _ h => Sb.own (by repeat' (first | with_reducible exact Sb.all | exact Sb.nil | (apply Sb.cons; focus (first | ((repeat (first | with_reducible exact Tk.here | with_reducible apply Tk.there)); done) | ((repeat (first | exact Tk.here | apply Tk.there)); done))) | apply Sb.drop)) h)
      refine WC.ite rfl (fun h4 => ?_) (fun h4 => ?_)
      · -- then
        exact WC.skip <| WX.thenN <| WC.block <| WC.region <| sv (vmI rfl) <| sv (vadd rfl rfl (by omega)) <| sv (vaI rfl) <| WL.nil <| WX.blockN <| WX.again (j + 1) (by omega) (by omega) ⟨rfl, trivial⟩ ⟨rfl, trivial⟩ (fun _ h => Sb.own (by repeat' (first | with_reducible exact Sb.all | exact Sb.nil | (apply Sb.cons; focus (first | ((repeat (first | with_reducible exact Tk.here | with_reducible apply Tk.there)); done) | ((repeat (first | exact Tk.here | apply Tk.there)); done))) | apply Sb.drop)) h)
      · -- else
        have hjr : j = runL isLet l := by omega
        refine WC.exit <| WX.thenE <| WX.thenE <| WX.blockH <| WX.thenN <| WC.seq <| WC.seq <| WC.region <| sv (vmI rfl) <| sv (vgt rfl rfl) <| WL.nil <| WX.thenN <| ?_
        refine WC.ite rfl (fun h5 => ?_) (fun h5 => ?_)
        · -- then
          refine WC.seq <| ?_
          refine WC.cutS [(53, .bool (decide (1 < runL isLet l ∨ ¬ NmP (l.headD 0))))] [(0, .string _)] ⟨rfl, trivial⟩ ?_ fun ρh => ?_
          · -- ref.go:41
            refine WC.region <| sv (vmI rfl) <| svs (vgt rfl rfl) (fun q3 => ?_) (fun q3 => ?_)
            ·
              exact sv (vmB rfl) <| sng rfl <| sng rfl <| sng rfl <| sng rfl <| sng rfl <| sng rfl <| sng rfl <| sng rfl <| sng rfl <| sng rfl <| sng rfl <| sng rfl <| sng rfl <| sv (vpkt rfl) <| WL.nil <| WX.mid () trivial ⟨bT (.inl (by omega)), trivial⟩ ⟨rfl, trivial⟩ (fun _ h => Sb.own (by repeat' (first | with_reducible exact Sb.all | exact Sb.nil | (apply Sb.cons; focus (first | ((repeat (first | with_reducible exact Tk.here | with_reducible apply Tk.there)); done) | ((repeat (first | exact Tk.here | apply Tk.there)); done))) | apply Sb.drop)) h)
            ·
              refine sv (vmB rfl) <| svg rfl (vmT rfl) <| svg rfl (vixs Tryd.underlying9 rfl rfl (by omega) (bs_get0 (by omega))) <| svsg rfl (vne rfl rfl) (fun q4 => ?_) (fun q4 => ?_)
              ·
                refine svg rfl (vmB rfl) <| svg rfl (vmT rfl) <| svg rfl (vixs Tryd.underlying9 rfl rfl (by omega) (bs_get0 (by omega))) <| svsg rfl (vne rfl rfl) (fun q5 => ?_) (fun q5 => ?_)
                ·
                  exact svg rfl (vpkt rfl) <| svg rfl (vmB rfl) <| svg rfl (vmT rfl) <| svg rfl (vixs Tryd.underlying9 rfl rfl (by omega) (bs_get0 (by omega))) <| svg rfl (vne rfl rfl) <| svg rfl (vpkt rfl) <| sv (vpkf rfl) <| WL.nil <| WX.mid () trivial ⟨bI (by rw [nmp_iff]; omega), trivial⟩ ⟨rfl, trivial⟩ (fun _ h => Sb.own (by repeat' (first | with_reducible exact Sb.all | exact Sb.nil | (apply Sb.cons; focus (first | ((repeat (first | with_reducible exact Tk.here | with_reducible apply Tk.there)); done) | ((repeat (first | exact Tk.here | apply Tk.there)); done))) | apply Sb.drop)) h)
                ·
                  exact svg rfl (vpkt rfl) <| svg rfl (vmB rfl) <| sng rfl <| sng rfl <| sng rfl <| svg rfl (vpkf rfl) <| sv (vpkf rfl) <| WL.nil <| WX.mid () trivial ⟨bF (by rw [nmp_iff]; omega), trivial⟩ ⟨rfl, trivial⟩ (fun _ h => Sb.own (by repeat' (first | with_reducible exact Sb.all | exact Sb.nil | (apply Sb.cons; focus (first | ((repeat (first | with_reducible exact Tk.here | with_reducible apply Tk.there)); done) | ((repeat (first | exact Tk.here | apply Tk.there)); done))) | apply Sb.drop)) h)
              ·
                exact svg rfl (vmB rfl) <| sng rfl <| sng rfl <| sng rfl <| svg rfl (vpkf rfl) <| svg rfl (vmB rfl) <| sng rfl <| sng rfl <| sng rfl <| svg rfl (vpkf rfl) <| sv (vpkf rfl) <| WL.nil <| WX.mid () trivial ⟨bF (by rw [nmp_iff]; omega), trivial⟩ ⟨rfl, trivial⟩ (fun _ h => Sb.own (by repeat' (first | with_reducible exact Sb.all | exact Sb.nil | (apply Sb.cons; focus (first | ((repeat (first | with_reducible exact Tk.here | with_reducible apply Tk.there)); done) | ((repeat (first | exact Tk.here | apply Tk.there)); done))) | apply Sb.drop)) h)
          refine WC.ite rfl (fun h6 => ?_) (fun h6 => ?_)
          · -- then
            exact WC.seq <| WC.region <| sv (vaT rfl) <| WL.nil <| WX.thenN <| WC.ret <| WX.thenR <| WX.thenR <| WX.ret1 rfl (()) (trivial) (show Value.string (bs []) = _ by unfold wordS; rw [if_neg (by omega), if_pos (by omega), if_pos h6]) (fun _ h => Sb.own (by repeat' (first | with_reducible exact Sb.all | exact Sb.nil | (apply Sb.cons; focus (first | ((repeat (first | with_reducible exact Tk.here | with_reducible apply Tk.there)); done) | ((repeat (first | exact Tk.here | apply Tk.there)); done))) | apply Sb.drop)) h)
          · -- else
            exact WC.skip <| WX.thenN <| WC.seq <| WC.region <| sv (vmT rfl) <| sv (vw (v' := .string (bs (wordS l))) (vsslH Tryd.underlying9 rfl rfl (by omega) (by omega)) (by rw [bs_take (i := 1) (n := 1) (by omega) rfl]; unfold wordS; rw [if_neg (by omega), if_pos (by omega), if_neg h6])) <| sv (vaT rfl) <| WL.nil <| WX.thenN <| WC.ret <| WX.thenR <| WX.ret1 rfl (()) (trivial) rfl (fun _ h => Sb.own (by repeat' (first | with_reducible exact Sb.all | exact Sb.nil | (apply Sb.cons; focus (first | ((repeat (first | with_reducible exact Tk.here | with_reducible apply Tk.there)); done) | ((repeat (first | exact Tk.here | apply Tk.there)); done))) | apply Sb.drop)) h)
        · -- else
          have hws := wordS_wd hd0 (show runL isLet l = 0 by omega)
          rw [hws]
          obtain ⟨a, ha⟩ : ∃ a, a = l.headD 0 := ⟨_, rfl⟩
          obtain ⟨b, hb⟩ : ∃ b, b = l.getD 1 0 := ⟨_, rfl⟩
          refine WC.skip <| WX.thenN <| ?_
          refine WC.cutvS (ι := Unit) (fun i => []) [(0, .string _)] (fun i => l.length < 2 ∨ wd2 a b = none) ⟨rfl, trivial⟩ ?_ ?_
          · -- up to the join
            refine WC.seq <| WC.region <| sv (vmT rfl) <| sv (vlens Tryd.underlying9 rfl) <| sv (vge rfl rfl) <| WL.nil <| WX.thenN <| ?_
            refine WC.ite rfl (fun h7 => ?_) (fun h7 => ?_)
            · -- then
              have hone : 1 < l.length := by omega
              refine WC.seq <| WC.region <| sv (vmT rfl) <| sv (vw (v' := .string (bs [a, b])) (vsslH Tryd.underlying9 rfl rfl (by omega) (by omega)) (by rw [bs_take (i := 2) (n := 2) (by omega) rfl, take2 hone, ha, hb])) <| WL.nil <| WX.thenN <| WC.block <| ?_
              refine WC.cutvS (ι := Unit) (fun i => [(61, .bool (decide ((wd2 a b).isSome = true)))]) [(0, .string _)] (fun i => True) ⟨rfl, trivial⟩ ?_ ?_
              · -- up to the join
                refine WC.seq <| WC.region <| sv (veqs rfl rfl) <| sv (vaB rfl) <| WL.nil <| WX.thenN <| ?_
                refine WC.ite rfl (fun h8 => ?_) (fun h8 => ?_)
                · -- then
                  exact WC.skip <| WX.mid (()) (trivial) ⟨bI ⟨fun _ => by have := two_eq.1 h8; simp [wd2, this], fun _ => h8⟩, trivial⟩ ⟨rfl, trivial⟩ (fun _ h => Sb.own (by repeat' (first | with_reducible exact Sb.all | exact Sb.nil | (apply Sb.cons; focus (first | ((repeat (first | with_reducible exact Tk.here | with_reducible apply Tk.there)); done) | ((repeat (first | exact Tk.here | apply Tk.there)); done))) | apply Sb.drop)) h)
                · -- else
                  refine WC.seq <| WC.region <| sv (veqs rfl rfl) <| sv (vaB rfl) <| WL.nil <| WX.thenN <| ?_
                  refine WC.ite rfl (fun h9 => ?_) (fun h9 => ?_)
                  · -- then
                    exact WC.skip <| WX.mid (()) (trivial) ⟨bI ⟨fun _ => by have := two_eq.1 h9; simp [wd2, this], fun _ => h9⟩, trivial⟩ ⟨rfl, trivial⟩ (fun _ h => Sb.own (by repeat' (first | with_reducible exact Sb.all | exact Sb.nil | (apply Sb.cons; focus (first | ((repeat (first | with_reducible exact Tk.here | with_reducible apply Tk.there)); done) | ((repeat (first | exact Tk.here | apply Tk.there)); done))) | apply Sb.drop)) h)
                  · -- else
                    refine WC.seq <| WC.region <| sv (veqs rfl rfl) <| sv (vaB rfl) <| WL.nil <| WX.thenN <| ?_
                    refine WC.ite rfl (fun h10 => ?_) (fun h10 => ?_)
                    · -- then
                      exact WC.skip <| WX.mid (()) (trivial) ⟨bI ⟨fun _ => by have := two_eq.1 h10; simp [wd2, this], fun _ => h10⟩, trivial⟩ ⟨rfl, trivial⟩ (fun _ h => Sb.own (by repeat' (first | with_reducible exact Sb.all | exact Sb.nil | (apply Sb.cons; focus (first | ((repeat (first | with_reducible exact Tk.here | with_reducible apply Tk.there)); done) | ((repeat (first | exact Tk.here | apply Tk.there)); done))) | apply Sb.drop)) h)
                    · -- else
                      refine WC.seq <| WC.region <| sv (veqs rfl rfl) <| sv (vaB rfl) <| WL.nil <| WX.thenN <| ?_
                      refine WC.ite rfl (fun h11 => ?_) (fun h11 => ?_)
                      · -- then
                        exact WC.skip <| WX.mid (()) (trivial) ⟨bI ⟨fun _ => by have := two_eq.1 h11; simp [wd2, this], fun _ => h11⟩, trivial⟩ ⟨rfl, trivial⟩ (fun _ h => Sb.own (by repeat' (first | with_reducible exact Sb.all | exact Sb.nil | (apply Sb.cons; focus (first | ((repeat (first | with_reducible exact Tk.here | with_reducible apply Tk.there)); done) | ((repeat (first | exact Tk.here | apply Tk.there)); done))) | apply Sb.drop)) h)
                      · -- else
                        refine WC.seq <| WC.region <| sv (veqs rfl rfl) <| sv (vaB rfl) <| WL.nil <| WX.thenN <| ?_
                        refine WC.ite rfl (fun h12 => ?_) (fun h12 => ?_)
                        · -- then
                          exact WC.skip <| WX.mid (()) (trivial) ⟨bI ⟨fun _ => by have := two_eq.1 h12; simp [wd2, this], fun _ => h12⟩, trivial⟩ ⟨rfl, trivial⟩ (fun _ h => Sb.own (by repeat' (first | with_reducible exact Sb.all | exact Sb.nil | (apply Sb.cons; focus (first | ((repeat (first | with_reducible exact Tk.here | with_reducible apply Tk.there)); done) | ((repeat (first | exact Tk.here | apply Tk.there)); done))) | apply Sb.drop)) h)
                        · -- else
                          exact WC.region <| sv (veqs rfl rfl) <| sv (vaB rfl) <| WL.nil <| WX.mid (()) (trivial) ⟨bI (by rw [two_eq] at h8 h9 h10 h11 h12 ⊢; unfold wd2; rw [if_neg h8, if_neg h9, if_neg h10, if_neg h11, if_neg h12]; split <;> simp_all), trivial⟩ ⟨rfl, trivial⟩ (fun _ h => Sb.own (by repeat' (first | with_reducible exact Sb.all | exact Sb.nil | (apply Sb.cons; focus (first | ((repeat (first | with_reducible exact Tk.here | with_reducible apply Tk.there)); done) | ((repeat (first | exact Tk.here | apply Tk.there)); done))) | apply Sb.drop)) h)
              · -- behind the join
                intro _ _ ρh
                refine WC.ite rfl (fun h13 => ?_) (fun h13 => ?_)
                · -- then
                  obtain ⟨o, ho⟩ := Option.isSome_iff_exists.1 h13
                  have hw : wd l = .bin o := wd_two hone (by rw [← ha, ← hb]; exact ho)
                  exact WC.seq <| WC.region <| sv (vmT rfl) <| sv (vw (v' := .string (bs [a, b])) (vsslH Tryd.underlying9 rfl rfl (by omega) (by omega)) (by rw [bs_take (i := 2) (n := 2) (by omega) rfl, take2 hone, ha, hb])) <| sv (vaT rfl) <| WL.nil <| WX.thenN <| WC.ret <| WX.blockR <| WX.thenR <| WX.ret1 rfl (()) (trivial) (by rw [hw]; show Value.string (bs [a, b]) = .string (bs o.bytes); rw [wd2_bytes ho]) (fun _ h => Sb.own (by repeat' (first | with_reducible exact Sb.all | exact Sb.nil | (apply Sb.cons; focus (first | ((repeat (first | with_reducible exact Tk.here | with_reducible apply Tk.there)); done) | ((repeat (first | exact Tk.here | apply Tk.there)); done))) | apply Sb.drop)) h)
                · -- else
                  exact WC.skip <| WX.blockN <| WX.mid (()) (.inr (by cases hq : wd2 a b with | none => rfl | some o => exact absurd (by rw [hq]; rfl) h13)) trivial ⟨rfl, trivial⟩ (fun _ h => Sb.own (by repeat' (first | with_reducible exact Sb.all | exact Sb.nil | (apply Sb.cons; focus (first | ((repeat (first | with_reducible exact Tk.here | with_reducible apply Tk.there)); done) | ((repeat (first | exact Tk.here | apply Tk.there)); done))) | apply Sb.drop)) h)
            · -- else
              exact WC.skip <| WX.mid (()) (.inl (by omega)) trivial ⟨rfl, trivial⟩ (fun _ h => Sb.own (by repeat' (first | with_reducible exact Sb.all | exact Sb.nil | (apply Sb.cons; focus (first | ((repeat (first | with_reducible exact Tk.here | with_reducible apply Tk.there)); done) | ((repeat (first | exact Tk.here | apply Tk.there)); done))) | apply Sb.drop)) h)
          · -- behind the join
            intro _ hno ρh
            refine WC.seq <| WC.seq <| WC.region <| sv (vmT rfl) <| sv (vlens Tryd.underlying9 rfl) <| sv (vge rfl rfl) <| WL.nil <| WX.thenN <| ?_
            refine WC.ite rfl (fun h14 => ?_) (fun h14 => ?_)
            · -- then
              have hpos : 0 < l.length := by omega
              have hw : wd l = wd1 a := by rw [ha]; exact wd_one hpos (by rw [← ha, ← hb]; exact hno)
              refine WC.seq <| WC.region <| sv (vmT rfl) <| sv (vixs (c := a) Tryd.underlying9 rfl rfl (by omega) (by rw [ha]; exact bs_get0 hpos)) <| WL.nil <| WX.thenN <| WC.block <| ?_
              refine WC.cutvS (ι := Unit) (fun i => [(75, .bool (decide (wd1 a ≠ .none_)))]) [(0, .string _)] (fun i => True) ⟨rfl, trivial⟩ ?_ ?_
              · -- up to the join
                refine WC.seq <| WC.region <| sv (veq rfl rfl) <| sv (vaB rfl) <| WL.nil <| WX.thenN <| ?_
                refine WC.ite rfl (fun h15 => ?_) (fun h15 => ?_)
                · -- then
                  exact WC.skip <| WX.mid (()) (trivial) ⟨bI ⟨fun _ => by rw [u8k (k := 60) h15]; decide, fun _ => h15⟩, trivial⟩ ⟨rfl, trivial⟩ (fun _ h => Sb.own (by repeat' (first | with_reducible exact Sb.all | exact Sb.nil | (apply Sb.cons; focus (first | ((repeat (first | with_reducible exact Tk.here | with_reducible apply Tk.there)); done) | ((repeat (first | exact Tk.here | apply Tk.there)); done))) | apply Sb.drop)) h)
                · -- else
                  refine WC.seq <| WC.region <| sv (veq rfl rfl) <| sv (vaB rfl) <| WL.nil <| WX.thenN <| ?_
                  refine WC.ite rfl (fun h16 => ?_) (fun h16 => ?_)
                  · -- then
                    exact WC.skip <| WX.mid (()) (trivial) ⟨bI ⟨fun _ => by rw [u8k (k := 62) h16]; decide, fun _ => h16⟩, trivial⟩ ⟨rfl, trivial⟩ (fun _ h => Sb.own (by repeat' (first | with_reducible exact Sb.all | exact Sb.nil | (apply Sb.cons; focus (first | ((repeat (first | with_reducible exact Tk.here | with_reducible apply Tk.there)); done) | ((repeat (first | exact Tk.here | apply Tk.there)); done))) | apply Sb.drop)) h)
                  · -- else
                    refine WC.seq <| WC.region <| sv (veq rfl rfl) <| sv (vaB rfl) <| WL.nil <| WX.thenN <| ?_
                    refine WC.ite rfl (fun h17 => ?_) (fun h17 => ?_)
                    · -- then
                      exact WC.skip <| WX.mid (()) (trivial) ⟨bI ⟨fun _ => by rw [u8k (k := 43) h17]; decide, fun _ => h17⟩, trivial⟩ ⟨rfl, trivial⟩ (fun _ h => Sb.own (by repeat' (first | with_reducible exact Sb.all | exact Sb.nil | (apply Sb.cons; focus (first | ((repeat (first | with_reducible exact Tk.here | with_reducible apply Tk.there)); done) | ((repeat (first | exact Tk.here | apply Tk.there)); done))) | apply Sb.drop)) h)
                    · -- else
                      refine WC.seq <| WC.region <| sv (veq rfl rfl) <| sv (vaB rfl) <| WL.nil <| WX.thenN <| ?_
                      refine WC.ite rfl (fun h18 => ?_) (fun h18 => ?_)
                      · -- then
                        exact WC.skip <| WX.mid (()) (trivial) ⟨bI ⟨fun _ => by rw [u8k (k := 45) h18]; decide, fun _ => h18⟩, trivial⟩ ⟨rfl, trivial⟩ (fun _ h => Sb.own (by repeat' (first | with_reducible exact Sb.all | exact Sb.nil | (apply Sb.cons; focus (first | ((repeat (first | with_reducible exact Tk.here | with_reducible apply Tk.there)); done) | ((repeat (first | exact Tk.here | apply Tk.there)); done))) | apply Sb.drop)) h)
                      · -- else
                        refine WC.seq <| WC.region <| sv (veq rfl rfl) <| sv (vaB rfl) <| WL.nil <| WX.thenN <| ?_
                        refine WC.ite rfl (fun h19 => ?_) (fun h19 => ?_)
                        · -- then
                          exact WC.skip <| WX.mid (()) (trivial) ⟨bI ⟨fun _ => by rw [u8k (k := 42) h19]; decide, fun _ => h19⟩, trivial⟩ ⟨rfl, trivial⟩ (fun _ h => Sb.own (by repeat' (first | with_reducible exact Sb.all | exact Sb.nil | (apply Sb.cons; focus (first | ((repeat (first | with_reducible exact Tk.here | with_reducible apply Tk.there)); done) | ((repeat (first | exact Tk.here | apply Tk.there)); done))) | apply Sb.drop)) h)
                        · -- else
                          refine WC.seq <| WC.region <| sv (veq rfl rfl) <| sv (vaB rfl) <| WL.nil <| WX.thenN <| ?_
                          refine WC.ite rfl (fun h20 => ?_) (fun h20 => ?_)
                          · -- then
                            exact WC.skip <| WX.mid (()) (trivial) ⟨bI ⟨fun _ => by rw [u8k (k := 47) h20]; decide, fun _ => h20⟩, trivial⟩ ⟨rfl, trivial⟩ (fun _ h => Sb.own (by repeat' (first | with_reducible exact Sb.all | exact Sb.nil | (apply Sb.cons; focus (first | ((repeat (first | with_reducible exact Tk.here | with_reducible apply Tk.there)); done) | ((repeat (first | exact Tk.here | apply Tk.there)); done))) | apply Sb.drop)) h)
                          · -- else
                            refine WC.seq <| WC.region <| sv (veq rfl rfl) <| sv (vaB rfl) <| WL.nil <| WX.thenN <| ?_
                            refine WC.ite rfl (fun h21 => ?_) (fun h21 => ?_)
                            · -- then
                              exact WC.skip <| WX.mid (()) (trivial) ⟨bI ⟨fun _ => by rw [u8k (k := 37) h21]; decide, fun _ => h21⟩, trivial⟩ ⟨rfl, trivial⟩ (fun _ h => Sb.own (by repeat' (first | with_reducible exact Sb.all | exact Sb.nil | (apply Sb.cons; focus (first | ((repeat (first | with_reducible exact Tk.here | with_reducible apply Tk.there)); done) | ((repeat (first | exact Tk.here | apply Tk.there)); done))) | apply Sb.drop)) h)
                            · -- else
                              refine WC.seq <| WC.region <| sv (veq rfl rfl) <| sv (vaB rfl) <| WL.nil <| WX.thenN <| ?_
                              refine WC.ite rfl (fun h22 => ?_) (fun h22 => ?_)
                              · -- then
                                exact WC.skip <| WX.mid (()) (trivial) ⟨bI ⟨fun _ => by rw [u8k (k := 33) h22]; decide, fun _ => h22⟩, trivial⟩ ⟨rfl, trivial⟩ (fun _ h => Sb.own (by repeat' (first | with_reducible exact Sb.all | exact Sb.nil | (apply Sb.cons; focus (first | ((repeat (first | with_reducible exact Tk.here | with_reducible apply Tk.there)); done) | ((repeat (first | exact Tk.here | apply Tk.there)); done))) | apply Sb.drop)) h)
                              · -- else
                                refine WC.seq <| WC.region <| sv (veq rfl rfl) <| sv (vaB rfl) <| WL.nil <| WX.thenN <| ?_
                                refine WC.ite rfl (fun h23 => ?_) (fun h23 => ?_)
                                · -- then
                                  exact WC.skip <| WX.mid (()) (trivial) ⟨bI ⟨fun _ => by rw [u8k (k := 40) h23]; decide, fun _ => h23⟩, trivial⟩ ⟨rfl, trivial⟩ (fun _ h => Sb.own (by repeat' (first | with_reducible exact Sb.all | exact Sb.nil | (apply Sb.cons; focus (first | ((repeat (first | with_reducible exact Tk.here | with_reducible apply Tk.there)); done) | ((repeat (first | exact Tk.here | apply Tk.there)); done))) | apply Sb.drop)) h)
                                · -- else
                                  exact WC.region <| sv (veq rfl rfl) <| sv (vaB rfl) <| WL.nil <| WX.mid (()) (trivial) ⟨bI (by rw [wd1_none]; exact ⟨fun h => by rw [u8k (k := 41) h]; simp, fun h => h.elim (fun h => absurd (by rw [h]; rfl) h15) (fun h => h.elim (fun h => absurd (by rw [h]; rfl) h16) (fun h => h.elim (fun h => absurd (by rw [h]; rfl) h17) (fun h => h.elim (fun h => absurd (by rw [h]; rfl) h18) (fun h => h.elim (fun h => absurd (by rw [h]; rfl) h19) (fun h => h.elim (fun h => absurd (by rw [h]; rfl) h20) (fun h => h.elim (fun h => absurd (by rw [h]; rfl) h21) (fun h => h.elim (fun h => absurd (by rw [h]; rfl) h22) (fun h => h.elim (fun h => absurd (by rw [h]; rfl) h23) (fun h => by rw [h]; rfl)))))))))⟩), trivial⟩ ⟨rfl, trivial⟩ (fun _ h => Sb.own (by repeat' (first | with_reducible exact Sb.all | exact Sb.nil | (apply Sb.cons; focus (first | ((repeat (first | with_reducible exact Tk.here | with_reducible apply Tk.there)); done) | ((repeat (first | exact Tk.here | apply Tk.there)); done))) | apply Sb.drop)) h)
              · -- behind the join
                intro _ _ ρh
                refine WC.ite rfl (fun h24 => ?_) (fun h24 => ?_)
                · -- then
                  exact WC.seq <| WC.region <| sv (vmT rfl) <| sv (vw (v' := .string (bs [a])) (vsslH Tryd.underlying9 rfl rfl (by omega) (by omega)) (by rw [bs_take (i := 1) (n := 1) (by omega) rfl, take1 hpos, ha])) <| sv (vaT rfl) <| WL.nil <| WX.thenN <| WC.ret <| WX.blockR <| WX.thenR <| WX.ret1 rfl (()) (trivial) (by rw [hw, ← wd1_bytes h24]; rfl) (fun _ h => Sb.own (by repeat' (first | with_reducible exact Sb.all | exact Sb.nil | (apply Sb.cons; focus (first | ((repeat (first | with_reducible exact Tk.here | with_reducible apply Tk.there)); done) | ((repeat (first | exact Tk.here | apply Tk.there)); done))) | apply Sb.drop)) h)
                · -- else
                  exact WC.skip <| WX.blockN <| WX.thenN <| WC.seq <| WC.region <| sv (vaT rfl) <| WL.nil <| WX.thenN <| WC.ret <| WX.ret1 rfl (()) (trivial) (by rw [hw, Decidable.not_not.1 h24]; rfl) (fun _ h => Sb.own (by repeat' (first | with_reducible exact Sb.all | exact Sb.nil | (apply Sb.cons; focus (first | ((repeat (first | with_reducible exact Tk.here | with_reducible apply Tk.there)); done) | ((repeat (first | exact Tk.here | apply Tk.there)); done))) | apply Sb.drop)) h)
            · -- else
              have hnil : l = [] := List.eq_nil_of_length_eq_zero (by omega)
              exact WC.skip <| WX.thenN <| WC.seq <| WC.region <| sv (vaT rfl) <| WL.nil <| WX.thenN <| WC.ret <| WX.ret1 rfl (()) (trivial) (by rw [hnil]; rfl) (fun _ h => Sb.own (by repeat' (first | with_reducible exact Sb.all | exact Sb.nil | (apply Sb.cons; focus (first | ((repeat (first | with_reducible exact Tk.here | with_reducible apply Tk.there)); done) | ((repeat (first | exact Tk.here | apply Tk.there)); done))) | apply Sb.drop)) h)
end Go.Proofs.YtoeglkkmjmhmiaaDoor
