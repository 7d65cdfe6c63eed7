/-
  Layer 16: Whole.
-/
import Derived.Test.YthljpljbpbkkcaaDoorVaultCalm
set_option linter.unusedVariables false
set_option linter.unusedSimpArgs false
set_option maxRecDepth 4000
namespace Go.Proofs.YthljpljbpbkkcaaDoor
open Go.Sl Go.RowKit Go.Pack Go.Vault Go.Journal

def hasP (d : VD) (f : ByteArray) (n kind : Int) (i : Nat) : Bool := (d.parts ⟨f, n, kind, i⟩).isSome
def wholeP (d : VD) (f : ByteArray) (n parts : Int) : Bool := decide (1 ≤ parts ∧ parts ≤ 16) && ((List.range parts.toNat).all (hasP d f n 1) && (List.range 16).all (hasP d f n 2))
theorem range_snoc {p : Nat → Bool} {i : Nat} (h : (List.range i).all p = true) (hi : p i = true) : (List.range (i + 1)).all p = true := by
  rw [List.range_succ, List.all_append, h, Bool.true_and]
  simp [hi]
theorem range_no {p : Nat → Bool} {n i : Nat} (hi : i < n) (h : p i = false) : (List.range n).all p = false :=
  List.all_eq_false.2 ⟨i, List.mem_range.2 hi, by rw [h]; decide⟩
theorem pkOkN {f : ByteArray} {n kind : Int} {i : Nat} (hf : f.size ≤ 140737488351232) (hn : -9223372036854775808 ≤ n ∧ n ≤ 9223372036854775807) (hk : kind = 1 ∨ kind = 2) (hi : i ≤ 16) : PkOk ⟨f, n, kind, i⟩ :=
  ⟨hf, hn, by show _ ≤ kind ∧ kind ≤ _; omega, by show _ ≤ (i : Int) ∧ (i : Int) ≤ _; omega⟩
theorem v_has {w0 : World} {A : List HProp} {v j t1 t2 t3 : Nat} {dn : Bool} {d : VD} {f : ByteArray} {n pk pn : Int} (hk : PkOk ⟨f, n, pk, pn⟩) [h0 : CelAt A t1 [.pointer (some ⟨v, 0, none⟩)] 27] [h1 : CelAt A t2 [.string f] 9] [h2 : CelAt A t3 [.int .i64 n] 3] :
    Fun Tryd.prog w0 25 [.agg #[.int .i64 pk, .int .i64 pn], .pointer (some ⟨t1, 0, none⟩), .pointer (some ⟨t2, 0, none⟩), .pointer (some ⟨t3, 0, none⟩)] (pv v j dn d :: A) (Ret w0 (fun _ : Unit => True) (fun _ => .bool (d.parts ⟨f, n, pk, pn⟩).isSome) (fun _ => pv v j dn d :: A)) := by
  refine Fun.ex (fun w h => pv_open h) ?_
  rintro ⟨mp, mf, l, fl⟩ hi
  obtain ⟨gb, gn, gc, hgv⟩ := hi.get ⟨f, n, pk, pn⟩
  dsimp only [vcl] at hgv ⊢
  refine Fun.enter Tryd.func25 rfl Tryd.ntmps25 rfl ?_
  exact WC.seq <| WC.region <| bxc (v := .agg _) (cs := [.int _ _, .int _ _]) rfl rfl fun b1 => sv (vaB rfl) <| WL.nil <| WX.thenN <| WC.seq <| WC.draws rfl (by kernel_rfl) <| qv (vldc pl27 rfl) <| qv (vnil rfl) <| qv (vfldpz fl56f0 rfl) <| qv (vldc pl53 rfl) <| qv (vldc pl9 rfl) <| qv (vldc pl3 rfl) <| qv (vldac ag24 sz24 rfl rfl (by decide)) <| qv (vbd (ps := [(0, .string _), (1, .int _ _), (2, .agg _)]) (cs := pkl ⟨f, n, pk, pn⟩) bt62 zt62 rfl (by rfl)) <| qv (vlk2K Tryd.underlying53 place_law zt25 rfl rfl (kp_ok hk) hgv) <| qv vmv <| qv (vex rfl rfl) <| qv (vex rfl rfl) <| qv (vaS rfl) <| qv (vaB rfl) <| WQ.nil <| WX.thenN <| WC.seq <| WC.region <| sv (vmB rfl) <| sv (vaB rfl) <| WL.nil <| WX.thenN <| WC.ret <| WX.ret1 rfl (()) (trivial) rfl (fun w h => by have h2 := pv_mk (v := v) (j := j) (down := dn) hi (Own.sp4 (by repeat' (first | exact Spl.nil | (apply Spl.cons; focus (first | ((repeat (first | with_reducible exact Tk.here | with_reducible apply Tk.there)); done) | ((repeat (first | exact Tk.here | apply Tk.there)); done))))) h); exact Sb.own (by repeat' (first | with_reducible exact Sb.all | exact Sb.nil | (apply Sb.cons; focus (first | ((repeat (first | with_reducible exact Tk.here | with_reducible apply Tk.there)); done) | ((repeat (first | exact Tk.here | apply Tk.there)); done))) | apply Sb.drop)) h2)
theorem v_whole {w0 : World} {A : List HProp} {v j : Nat} {dn : Bool} {d : VD} {f : ByteArray} {n parts : Int} (hf : f.size ≤ 140737488351232) (hn : -9223372036854775808 ≤ n ∧ n ≤ 9223372036854775807) :
    Fun Tryd.prog w0 14 [.pointer (some ⟨v, 0, none⟩), .string f, .int .i64 n, .int .i64 parts] (pv v j dn d :: A) (Ret w0 (fun _ : Unit => True) (fun _ => .bool (wholeP d f n parts)) (fun _ => pv v j dn d :: A)) := by
  refine Fun.enter Tryd.func14 rfl Tryd.ntmps14 rfl ?_
  refine WC.seq <| WC.region <| bxc (v := .pointer _) (cs := [.pointer _]) rfl rfl fun b1 => bxc (v := .string _) (cs := [.string _]) rfl rfl fun b2 => bxc (v := .int _ _) (cs := [.int _ _]) rfl rfl fun b3 => sv (vaB rfl) <| WL.nil <| WX.thenN <| WC.seq <| ?_
  refine WC.cutS [(21, .bool (decide (¬ (1 ≤ parts ∧ parts ≤ 16))))] [(3, .int _ _), (4, _), (5, _), (6, _)] ⟨rfl, rfl, rfl, rfl, trivial⟩ ?_ fun ρh => ?_
  · -- vault.go:160
    refine WC.region <| sv (vldc pl27 rfl) <| sv (vpeqF Tryd.underlying27 rfl rfl) <| sv (vmB rfl) <| svg rfl (vmI rfl) <| svsg rfl (vlt rfl rfl) (fun q1 => ?_) (fun q1 => ?_)
    ·
      exact sv (vpkf rfl) <| sv (vmB rfl) <| sng rfl <| sng rfl <| sv (vpkt rfl) <| WL.nil <| WX.mid () trivial ⟨bT (by first | omega | simp_all | grind), trivial⟩ ⟨rfl, rfl, rfl, rfl, trivial⟩ (fun _ h => Sb.own (by repeat' (first | with_reducible exact Sb.all | exact Sb.nil | (apply Sb.cons; focus (first | ((repeat (first | with_reducible exact Tk.here | with_reducible apply Tk.there)); done) | ((repeat (first | exact Tk.here | apply Tk.there)); done))) | apply Sb.drop)) h)
    ·
      exact sv (vpkf rfl) <| sv (vmB rfl) <| svg rfl (vmI rfl) <| svg rfl (vgt rfl rfl) <| sv (vpkf rfl) <| WL.nil <| WX.mid () trivial ⟨bI (by first | omega | simp_all | grind), trivial⟩ ⟨rfl, rfl, rfl, rfl, trivial⟩ (fun _ h => Sb.own (by repeat' (first | with_reducible exact Sb.all | exact Sb.nil | (apply Sb.cons; focus (first | ((repeat (first | with_reducible exact Tk.here | with_reducible apply Tk.there)); done) | ((repeat (first | exact Tk.here | apply Tk.there)); done))) | apply Sb.drop)) h)
  refine WC.ite rfl (fun h1 => ?_) (fun h1 => ?_)
  · -- then
    exact WC.seq <| WC.region <| sv (vaB rfl) <| WL.nil <| WX.thenN <| WC.ret <| WX.thenR <| WX.ret1 rfl (()) (trivial) (by unfold wholeP; rw [decide_eq_false h1]; rfl) (fun _ h => Sb.own (by repeat' (first | with_reducible exact Sb.all | exact Sb.nil | (apply Sb.cons; focus (first | ((repeat (first | with_reducible exact Tk.here | with_reducible apply Tk.there)); done) | ((repeat (first | exact Tk.here | apply Tk.there)); done))) | apply Sb.drop)) h)
  · -- else
    have hp : 1 ≤ parts ∧ parts ≤ 16 := Decidable.not_not.1 h1
    refine WC.skip <| WX.thenN <| WC.seq <| WC.region <| sv (vfn rfl) <| sv (vaF rfl) <| WL.nil <| WX.thenN <| WC.seq <| WC.seq <| WC.region <| sv (vmI rfl) <| sv (vmI rfl) <| WL.nil <| WX.thenN <| WC.block <| ?_
    refine WC.loopS (ι := Nat) (fun i => [(24, .int .i64 i)]) [(9, .func _ _ _), (23, .int _ _)] (fun i => i ≤ parts ∧ (List.range i).all (hasP d f n 1) = true) (fun i => parts.toNat - i) (0) (⟨by omega, rfl⟩) ⟨rfl, trivial⟩ ⟨rfl, rfl, trivial⟩ ?_
    intro i hi ρh
    refine WC.seq <| WC.region <| sv (vlt rfl rfl) <| WL.nil <| WX.thenN <| WC.seq <| ?_
    refine WC.ite rfl (fun h2 => ?_) (fun h2 => ?_)
    · -- then
      refine WC.skip <| WX.thenN <| WC.seq <| WC.block <| WC.seq <| WC.region <| sv (vmI rfl) <| sv (vaI rfl) <| WL.nil <| WX.thenN <| WC.seq <| WC.region <| sv (vmF rfl) <| sv (vmI rfl) <| sv (vbd (ps := [(0, (.int .i64 1)), (1, .int _ _)]) (cs := [_, _]) bt24 zt24 rfl (by rfl)) <| clvx (by repeat' (first | with_reducible exact Sb.all | exact Sb.nil | (apply Sb.cons; focus (first | ((repeat (first | with_reducible exact Tk.here | with_reducible apply Tk.there)); done) | ((repeat (first | exact Tk.here | apply Tk.there)); done))) | apply Sb.drop)) (v_has (f := f) (n := n) (pk := 1) (pn := i) (pkOkN hf hn (.inl rfl) (by omega))) ct25 rfl rfl fun r7 hr7 => ?_
      refine sv (vnot rfl) <| WL.nil <| WX.thenN <| ?_
      refine WC.iteb rfl (fun h3 => ?_) (fun h3 => ?_)
      · -- then
        exact WC.seq <| WC.region <| sv (vaB rfl) <| WL.nil <| WX.thenN <| WC.ret <| WX.blockR <| WX.thenR <| WX.thenR <| WX.blockR <| WX.thenR <| WX.ret1 rfl (()) (trivial) (show Value.bool false = _ from by unfold wholeP; rw [range_no (p := hasP d f n 1) (i := i) (by omega) (by unfold hasP; simpa using h3)]; simp) (fun _ h => Sb.own (by repeat' (first | with_reducible exact Sb.all | exact Sb.nil | (apply Sb.cons; focus (first | ((repeat (first | with_reducible exact Tk.here | with_reducible apply Tk.there)); done) | ((repeat (first | exact Tk.here | apply Tk.there)); done))) | apply Sb.drop)) h)
      · -- else
        exact WC.skip <| WX.blockN <| WX.thenN <| WC.region <| sv (vadd rfl rfl (by omega)) <| sv (vmI rfl) <| WL.nil <| WX.again (i + 1) (⟨by omega, range_snoc hi.2 (by unfold hasP; simpa using h3)⟩) (by omega) ⟨rfl, trivial⟩ ⟨rfl, rfl, trivial⟩ (fun _ h => Sb.own (by repeat' (first | with_reducible exact Sb.all | exact Sb.nil | (apply Sb.cons; focus (first | ((repeat (first | with_reducible exact Tk.here | with_reducible apply Tk.there)); done) | ((repeat (first | exact Tk.here | apply Tk.there)); done))) | apply Sb.drop)) h)
    · -- else
      refine WC.exit <| WX.thenE <| WX.thenE <| WX.blockH <| WX.thenN <| WC.seq <| WC.seq <| WC.region <| sv (vmI rfl) <| WL.nil <| WX.thenN <| WC.block <| ?_
      refine WC.loopS (ι := Nat) (fun k => [(33, .int .i64 k)]) [(9, .func _ _ _)] (fun k => (k : Int) ≤ 16 ∧ (List.range k).all (hasP d f n 2) = true) (fun k => 16 - k) (0) (⟨by omega, rfl⟩) ⟨rfl, trivial⟩ ⟨rfl, trivial⟩ ?_
      intro k hk ρh
      refine WC.seq <| WC.region <| sv (vlt rfl rfl) <| WL.nil <| WX.thenN <| WC.seq <| ?_
      refine WC.ite rfl (fun h4 => ?_) (fun h4 => ?_)
      · -- then
        refine WC.skip <| WX.thenN <| WC.seq <| WC.block <| WC.seq <| WC.region <| sv (vmI rfl) <| sv (vaI rfl) <| WL.nil <| WX.thenN <| WC.seq <| WC.region <| sv (vmF rfl) <| sv (vmI rfl) <| sv (vbd (ps := [(0, (.int .i64 2)), (1, .int _ _)]) (cs := [_, _]) bt24 zt24 rfl (by rfl)) <| clvx (by repeat' (first | with_reducible exact Sb.all | exact Sb.nil | (apply Sb.cons; focus (first | ((repeat (first | with_reducible exact Tk.here | with_reducible apply Tk.there)); done) | ((repeat (first | exact Tk.here | apply Tk.there)); done))) | apply Sb.drop)) (v_has (f := f) (n := n) (pk := 2) (pn := k) (pkOkN hf hn (.inr rfl) (by omega))) ct25 rfl rfl fun r10 hr10 => ?_
        refine sv (vnot rfl) <| WL.nil <| WX.thenN <| ?_
        refine WC.iteb rfl (fun h5 => ?_) (fun h5 => ?_)
        · -- then
          exact WC.seq <| WC.region <| sv (vaB rfl) <| WL.nil <| WX.thenN <| WC.ret <| WX.blockR <| WX.thenR <| WX.thenR <| WX.blockR <| WX.thenR <| WX.ret1 rfl (()) (trivial) (show Value.bool false = _ from by unfold wholeP; rw [range_no (p := hasP d f n 2) (n := 16) (i := k) (by omega) (by unfold hasP; simpa using h5)]; simp) (fun _ h => Sb.own (by repeat' (first | with_reducible exact Sb.all | exact Sb.nil | (apply Sb.cons; focus (first | ((repeat (first | with_reducible exact Tk.here | with_reducible apply Tk.there)); done) | ((repeat (first | exact Tk.here | apply Tk.there)); done))) | apply Sb.drop)) h)
        · -- else
          exact WC.skip <| WX.blockN <| WX.thenN <| WC.region <| sv (vadd rfl rfl (by omega)) <| sv (vmI rfl) <| WL.nil <| WX.again (k + 1) (⟨by omega, range_snoc hk.2 (by unfold hasP; simpa using h5)⟩) (by omega) ⟨rfl, trivial⟩ ⟨rfl, trivial⟩ (fun _ h => Sb.own (by repeat' (first | with_reducible exact Sb.all | exact Sb.nil | (apply Sb.cons; focus (first | ((repeat (first | with_reducible exact Tk.here | with_reducible apply Tk.there)); done) | ((repeat (first | exact Tk.here | apply Tk.there)); done))) | apply Sb.drop)) h)
      · -- else
        have e1 : i = parts.toNat := by omega
        have e2 : k = 16 := by omega
        exact WC.exit <| WX.thenE <| WX.thenE <| WX.blockH <| WX.thenN <| WC.seq <| WC.region <| sv (vaB rfl) <| WL.nil <| WX.thenN <| WC.ret <| WX.ret1 rfl (()) (trivial) (show Value.bool true = _ from by { unfold wholeP; rw [decide_eq_true hp, ← e1, hi.2, ← e2, hk.2]; rfl }) (fun _ h => Sb.own (by repeat' (first | with_reducible exact Sb.all | exact Sb.nil | (apply Sb.cons; focus (first | ((repeat (first | with_reducible exact Tk.here | with_reducible apply Tk.there)); done) | ((repeat (first | exact Tk.here | apply Tk.there)); done))) | apply Sb.drop)) h)
theorem v_whole_c {w0 : World} {A : List HProp} {v dk m : Nat} {d : VD} {f : ByteArray} {n parts : Int} (hf : f.size ≤ 140737488351232) (hn : -9223372036854775808 ≤ n ∧ n ≤ 9223372036854775807) :
    Fun Tryd.prog w0 14 [.pointer (some ⟨v, 0, none⟩), .string f, .int .i64 n, .int .i64 parts] (vcm v dk d m :: A) (Ret w0 (fun _ : Unit => True) (fun _ => .bool (wholeP d f n parts)) (fun _ => vcm v dk d m :: A)) := by
  refine Fun.ex (fun w h => vcm_open h) ?_
  rintro ⟨j, s⟩ hi
  have hi' : Vc ⟨s.st, s.n, false⟩ m := by have := hi; obtain ⟨st, n, sick⟩ := s; obtain rfl : sick = false := hi.sick; exact this
  exact (v_whole hf hn).mono fun e w ⟨i, _, he, hO⟩ => ⟨(), trivial, he, vcm_mk hi' hO⟩
end Go.Proofs.YthljpljbpbkkcaaDoor
