/-
  Layer 19: small functions of its laws.
-/
import Derived.Test.YtekoilhjlofncaaRaftRefF
import Derived.Test.YtekoilhjlofncaaSlEq
set_option linter.unusedVariables false
set_option linter.unusedSimpArgs false
set_option maxRecDepth 4000
namespace Go.Proofs.Ytekoilhjlofncaa
open Go.Sl Go.RowKit Go.Raft

theorem ref_samecells {w0 : World} {A : List HProp} {ca cb : Nat} {a b : Option Addr} {k l : List Cl} (hk : k.length ≤ 9223372036854775807) [hR : Reads w0 A a (cvs k)] [hS : Reads w0 A b (cvs l)] :
    Fun Try.prog w0 19 [.slice a k.length ca, .slice b l.length cb] A (Ret w0 (fun _ : Unit => True) (fun _ => .bool (decide (k = l))) (fun _ => A)) := by
  refine Fun.enter Try.func19 rfl Try.ntmps19 rfl ?_
  refine WC.seq <| WC.region <| sv (vaB rfl) <| WL.nil <| WX.thenN <| WC.seq <| WC.seq <| WC.region <| sv (vmS rfl) <| sv (vlen Try.underlying22 rfl) <| sv (vmS rfl) <| sv (vlen Try.underlying22 rfl) <| sv (vne rfl rfl) <| WL.nil <| WX.thenN <| ?_
  refine WC.ite rfl (fun h1 => ?_) (fun h1 => ?_)
  · -- then
    exact WC.seq <| WC.region <| sv (vaB rfl) <| WL.nil <| WX.thenN <| WC.ret <| WX.thenR <| WX.ret1 rfl (()) (trivial) (bF (fun h => h1 (by rw [h]))) (fun _ h => Sb.own (by repeat' (first | with_reducible exact Sb.all | exact Sb.nil | (apply Sb.cons; focus (first | ((repeat (first | with_reducible exact Tk.here | with_reducible apply Tk.there)); done) | ((repeat (first | exact Tk.here | apply Tk.there)); done))) | apply Sb.drop)) h)
  · -- else
    have hll : k.length = l.length := by omega
    have hlk := cvs_length k
    have hlj := cvs_length l
    refine WC.skip <| WX.thenN <| WC.seq <| WC.seq <| WC.region <| sv (vaI rfl) <| WL.nil <| WX.thenN <| WC.block <| ?_
    refine WC.loopS (ι := Nat) (fun i => [(5, .int .i64 i)]) [(0, .slice _ _ _), (1, .slice _ _ _)] (fun i => i ≤ k.length ∧ k.take i = l.take i) (fun i => k.length - i) (0) (⟨by omega, rfl⟩) ⟨rfl, trivial⟩ ⟨rfl, rfl, trivial⟩ ?_
    intro i hi ρh
    refine WC.seq <| WC.seq <| WC.region <| sv (vmI rfl) <| sv (vmS rfl) <| sv (vlen Try.underlying22 rfl) <| sv (vlt rfl rfl) <| WL.nil <| WX.thenN <| ?_
    refine WC.ite rfl (fun h2 => ?_) (fun h2 => ?_)
    · -- then
      have hik : i < k.length := by omega
      have hil : i < l.length := by omega
      obtain ⟨c, hc⟩ : ∃ c, k[i]? = some c := ⟨_, List.getElem?_eq_getElem hik⟩
      obtain ⟨d, hd⟩ : ∃ d, l[i]? = some d := ⟨_, List.getElem?_eq_getElem hil⟩
      have hposa : 0 < (cvs k).length := by omega
      have hposb : 0 < (cvs l).length := by omega
      have haga : ((cvs k).drop (((i : Int)).toNat * 2)).take 2 = [.int .i64 c.term, .string c.data] := by rw [Int.toNat_natCast]; exact cvs_take2 hc
      have hagb : ((cvs l).drop (((i : Int)).toNat * 2)).take 2 = [.int .i64 d.term, .string d.data] := by rw [Int.toNat_natCast]; exact cvs_take2 hd
      refine WC.known (fun w h => rsome (base := a) hposa reads h) fun hba => ?_
      refine WC.known (fun w h => rsome (base := b) hposb reads h) fun hbb => ?_
      refine WC.skip <| WX.thenN <| WC.seq <| WC.block <| WC.seq <| WC.draws rfl (by kernel_rfl) <| qv (vmS rfl) <| qv (vmI rfl) <| qv (vix Try.underlying22 sz39 rfl rfl (by omega) (by omega) reads hposa) <| qv (vlda ag39 sz39 rfl reads haga rfl (by decide)) <| qv (vmS rfl) <| qv (vmI rfl) <| qv (vix Try.underlying22 sz39 rfl rfl (by omega) (by omega) reads hposb) <| qv (vlda ag39 sz39 rfl reads hagb rfl (by decide)) <| qv (vneA eq39 rfl rfl rfl) <| WQ.nil <| WX.thenN <| ?_
      refine WC.iteb rfl (fun h3 => ?_) (fun h3 => ?_)
      · -- then
        exact WC.seq <| WC.region <| sv (vaB rfl) <| WL.nil <| WX.thenN <| WC.ret <| WX.blockR <| WX.thenR <| WX.thenR <| WX.blockR <| WX.thenR <| WX.ret1 rfl (()) (trivial) (bF (fun h => by subst h; rw [hc] at hd; cases hd; simp at h3)) (fun _ h => Sb.own (by repeat' (first | with_reducible exact Sb.all | exact Sb.nil | (apply Sb.cons; focus (first | ((repeat (first | with_reducible exact Tk.here | with_reducible apply Tk.there)); done) | ((repeat (first | exact Tk.here | apply Tk.there)); done))) | apply Sb.drop)) h)
      · -- else
        have hcd : c = d := by
          obtain ⟨t1, d1⟩ := c
          obtain ⟨t2, d2⟩ := d
          have h4 : t1 = t2 ∧ d1 = d2 := by simpa using h3
          rw [h4.1, h4.2]
        exact WC.skip <| WX.blockN <| WX.thenN <| WC.region <| sv (vmI rfl) <| sv (vadd rfl rfl (by omega)) <| sv (vaI rfl) <| WL.nil <| WX.again (i + 1) (⟨by omega, by rw [List.take_add_one, List.take_add_one, hi.2, hc, hd, hcd]⟩) (by omega) ⟨rfl, trivial⟩ ⟨rfl, rfl, trivial⟩ (fun _ h => Sb.own (by repeat' (first | with_reducible exact Sb.all | exact Sb.nil | (apply Sb.cons; focus (first | ((repeat (first | with_reducible exact Tk.here | with_reducible apply Tk.there)); done) | ((repeat (first | exact Tk.here | apply Tk.there)); done))) | apply Sb.drop)) h)
    · -- else
      exact WC.exit <| WX.thenE <| WX.thenE <| WX.blockH <| WX.thenN <| WC.seq <| WC.region <| sv (vaB rfl) <| WL.nil <| WX.thenN <| WC.ret <| WX.ret1 rfl (()) (trivial) (bT (by have := hi.2; rwa [List.take_of_length_le (by omega), List.take_of_length_le (by omega)] at this)) (fun _ h => Sb.own (by repeat' (first | with_reducible exact Sb.all | exact Sb.nil | (apply Sb.cons; focus (first | ((repeat (first | with_reducible exact Tk.here | with_reducible apply Tk.there)); done) | ((repeat (first | exact Tk.here | apply Tk.there)); done))) | apply Sb.drop)) h)
theorem ref_samecells_eq {w0 : World} {A : List HProp} {ca cb : Nat} {a b : Option Addr} {k l : List Cl} (hk : k.length ≤ 9223372036854775807) [hR : Reads w0 A a (cvs k)] [hS : Reads w0 A b (cvs l)] (he : k = l) :
    Fun Try.prog w0 19 [.slice a k.length ca, .slice b l.length cb] A (Ret w0 (fun _ : Unit => True) (fun _ => .bool true) (fun _ => A)) := by
  have h := ref_samecells (w0 := w0) (A := A) (ca := ca) (cb := cb) (a := a) (b := b) (k := k) (l := l) hk
  rwa [decide_eq_true he] at h
theorem mvs_at {l : List Mh} {i k : Nat} {m : Mh} (h : l[i]? = some m) (hk : k < 9) : (mvs l)[i * 9 + k]? = (mv m)[k]? := by
  have hi := (List.getElem?_eq_some_iff.1 h).1
  have := flat_at (f := mv) (s := 9) (l := l) (i := i) (k := k) (fun _ _ => rfl) hi hk
  rw [(List.getElem?_eq_some_iff.1 h).2] at this
  exact this
theorem mvs_take9 {l : List Mh} {i : Nat} {m : Mh} (h : l[i]? = some m) : ((mvs l).drop (i * 9)).take 9 = mv m := by
  have hi := (List.getElem?_eq_some_iff.1 h).1
  have := flat_take (f := mv) (s := 9) (l := l) (i := i) (fun _ _ => rfl) hi
  rw [(List.getElem?_eq_some_iff.1 h).2] at this
  exact this
theorem ref_same {w0 : World} {A : List HProp} {ca cb : Nat} {a b : Option Addr} (k l : List Mh) (hR : RdC w0 A a (mvs k)) (hS : RdC w0 A b (mvs l)) (hk : k.length ≤ 9223372036854775807 ∧ ∀ m ∈ k, m.cs.xs.length ≤ 9223372036854775807) (hra : ∀ m ∈ k, RdC w0 A m.cs.base (cvs m.cs.xs)) (hrb : ∀ m ∈ l, RdC w0 A m.cs.base (cvs m.cs.xs)) :
    Fun Try.prog w0 14 [.slice a k.length ca, .slice b l.length cb] A (Ret w0 (fun _ : Unit => True) (fun _ => .bool (decide (k.map Mh.ml = l.map Mh.ml))) (fun _ => A)) := by
  have hRi : Reads w0 A a (mvs k) := ⟨hR⟩
  have hSi : Reads w0 A b (mvs l) := ⟨hS⟩
  refine Fun.enter Try.func14 rfl Try.ntmps14 rfl ?_
  refine WC.seq <| WC.region <| sv (vaB rfl) <| WL.nil <| WX.thenN <| WC.seq <| WC.seq <| WC.region <| sv (vmS rfl) <| sv (vlen Try.underlying43 rfl) <| sv (vmS rfl) <| sv (vlen Try.underlying43 rfl) <| sv (vne rfl rfl) <| WL.nil <| WX.thenN <| ?_
  refine WC.ite rfl (fun h1 => ?_) (fun h1 => ?_)
  · -- then
    exact WC.seq <| WC.region <| sv (vaB rfl) <| WL.nil <| WX.thenN <| WC.ret <| WX.thenR <| WX.ret1 rfl (()) (trivial) (bF (fun h => h1 (by have := congrArg List.length h; simp at this; omega))) (fun _ h => Sb.own (by repeat' (first | with_reducible exact Sb.all | exact Sb.nil | (apply Sb.cons; focus (first | ((repeat (first | with_reducible exact Tk.here | with_reducible apply Tk.there)); done) | ((repeat (first | exact Tk.here | apply Tk.there)); done))) | apply Sb.drop)) h)
  · -- else
    have hll : k.length = l.length := by omega
    have hlk := mvs_length k
    have hlj := mvs_length l
    refine WC.skip <| WX.thenN <| WC.seq <| WC.seq <| WC.region <| sv (vaI rfl) <| WL.nil <| WX.thenN <| WC.block <| ?_
    refine WC.loopS (ι := Nat) (fun i => [(5, .int .i64 i)]) [(0, .slice _ _ _), (1, .slice _ _ _)] (fun i => i ≤ k.length ∧ (k.take i).map Mh.ml = (l.take i).map Mh.ml) (fun i => k.length - i) (0) (⟨by omega, rfl⟩) ⟨rfl, trivial⟩ ⟨rfl, rfl, trivial⟩ ?_
    intro i hi ρh
    refine WC.seq <| WC.seq <| WC.region <| sv (vmI rfl) <| sv (vmS rfl) <| sv (vlen Try.underlying43 rfl) <| sv (vlt rfl rfl) <| WL.nil <| WX.thenN <| ?_
    refine WC.ite rfl (fun h2 => ?_) (fun h2 => ?_)
    · -- then
      have hik : i < k.length := by omega
      have hil : i < l.length := by omega
      obtain ⟨m, hm⟩ : ∃ m, k[i]? = some m := ⟨_, List.getElem?_eq_getElem hik⟩
      obtain ⟨o, ho⟩ : ∃ o, l[i]? = some o := ⟨_, List.getElem?_eq_getElem hil⟩
      have hposa : 0 < (mvs k).length := by omega
      have hposb : 0 < (mvs l).length := by omega
      have haga : ((mvs k).drop (((i : Int)).toNat * 9)).take 9 = mv m := by rw [Int.toNat_natCast]; exact mvs_take9 hm
      have hagb : ((mvs l).drop (((i : Int)).toNat * 9)).take 9 = mv o := by rw [Int.toNat_natCast]; exact mvs_take9 ho
      have hmr : ∀ {B : List HProp}, (∀ w, Own w0 B w → Own w0 A w) → Reads w0 B m.cs.base (cvs m.cs.xs) := fun {B} hB => ⟨(hra m (List.mem_of_getElem? hm)).mono hB⟩
      have hor : ∀ {B : List HProp}, (∀ w, Own w0 B w → Own w0 A w) → Reads w0 B o.cs.base (cvs o.cs.xs) := fun {B} hB => ⟨(hrb o (List.mem_of_getElem? ho)).mono hB⟩
      have hml := hk.2 m (List.mem_of_getElem? hm)
      refine WC.known (fun w h => rsome (base := a) hposa reads h) fun hba => ?_
      refine WC.known (fun w h => rsome (base := b) hposb reads h) fun hbb => ?_
      refine WC.skip <| WX.thenN <| WC.seq <| WC.block <| WC.seq <| WC.region <| sv (vmS rfl) <| sv (vmI rfl) <| sv (vix Try.underlying43 sz28 rfl rfl (by omega) (by omega) reads hposa) <| sv (vlda ag28 sz28 rfl reads haga rfl (by decide)) <| alz (cs := [.int .i64 0, .int .i64 0, .int .i64 0, .int .i64 0, .int .i64 0, .int .i64 0, .int .i64 0, .bool false, .slice none 0 0]) zt28 (by rfl) fun b3 => stAp sz28 rfl rfl rfl (by intro v hv; simp only [List.mem_cons, List.not_mem_nil, or_false] at hv; rcases hv with rfl | rfl | rfl | rfl | rfl | rfl | rfl | rfl | rfl <;> rfl) rfl <| WL.nil <| WX.thenN <| WC.seq <| WC.region <| sv (vmS rfl) <| sv (vmI rfl) <| sv (vix Try.underlying43 sz28 rfl rfl (by omega) (by omega) reads hposb) <| sv (vlda ag28 sz28 rfl reads hagb rfl (by decide)) <| alz (cs := [.int .i64 0, .int .i64 0, .int .i64 0, .int .i64 0, .int .i64 0, .int .i64 0, .int .i64 0, .bool false, .slice none 0 0]) zt28 (by rfl) fun b7 => stAp sz28 rfl rfl rfl (by intro v hv; simp only [List.mem_cons, List.not_mem_nil, or_false] at hv; rcases hv with rfl | rfl | rfl | rfl | rfl | rfl | rfl | rfl | rfl <;> rfl) rfl <| WL.nil <| WX.thenN <| ?_
      refine WC.cut0 [(88, .bool (decide (m.kind ≠ o.kind ∨ m.fr ≠ o.fr ∨ m.to_ ≠ o.to_ ∨ m.term ≠ o.term ∨ m.index ≠ o.index ∨ m.prev ≠ o.prev ∨ m.commit ≠ o.commit ∨ m.ok ≠ o.ok ∨ m.cs.xs ≠ o.cs.xs)))] [(0, .slice _ _ _), (1, .slice _ _ _), (5, .int _ _)] (cel b7 (mv o) 28 :: cel b3 (mv m) 28 :: A) ⟨rfl, rfl, rfl, trivial⟩ ?_ fun ρh => ?_
      · -- ref.go:282
        refine WC.region <| sv (vfldpz fl28f0 rfl) <| sv (vldc pl3 rfl) <| sv (vfldpz fl28f0 rfl) <| sv (vldc pl3 rfl) <| svs (vne rfl rfl) (fun q1 => ?_) (fun q1 => ?_)
        ·
          exact sv (vmB rfl) <| sng rfl <| sng rfl <| sng rfl <| sng rfl <| sng rfl <| sv (vpkt rfl) <| sv (vmB rfl) <| sng rfl <| sng rfl <| sng rfl <| sng rfl <| sng rfl <| sv (vpkt rfl) <| sv (vmB rfl) <| sng rfl <| sng rfl <| sng rfl <| sng rfl <| sng rfl <| sv (vpkt rfl) <| sv (vmB rfl) <| sng rfl <| sng rfl <| sng rfl <| sng rfl <| sng rfl <| sv (vpkt rfl) <| sv (vmB rfl) <| sng rfl <| sng rfl <| sng rfl <| sng rfl <| sng rfl <| sv (vpkt rfl) <| sv (vmB rfl) <| sng rfl <| sng rfl <| sng rfl <| sng rfl <| sng rfl <| sv (vpkt rfl) <| sv (vmB rfl) <| sng rfl <| sng rfl <| sng rfl <| sng rfl <| sng rfl <| sv (vpkt rfl) <| sv (vmB rfl) <| sng rfl <| sng rfl <| sng rfl <| sng rfl <| sng rfl <| sng rfl <| sv (vpkt rfl) <| WL.nil <| WX.mid () trivial ⟨bT (by first | omega | simp_all | grind), trivial⟩ ⟨rfl, rfl, rfl, trivial⟩ (fun _ h => Sb.own (by repeat' (first | with_reducible exact Sb.all | exact Sb.nil | (apply Sb.cons; focus (first | ((repeat (first | with_reducible exact Tk.here | with_reducible apply Tk.there)); done) | ((repeat (first | exact Tk.here | apply Tk.there)); done))) | apply Sb.drop)) h)
        ·
          refine sv (vmB rfl) <| svg rfl (vfldp fl28f1 rfl) <| svg rfl (vldc pl3 rfl) <| svg rfl (vfldp fl28f1 rfl) <| svg rfl (vldc pl3 rfl) <| svsg rfl (vne rfl rfl) (fun q2 => ?_) (fun q2 => ?_)
          ·
            exact sv (vpkf rfl) <| sv (vmB rfl) <| sng rfl <| sng rfl <| sng rfl <| sng rfl <| sng rfl <| sv (vpkt rfl) <| sv (vmB rfl) <| sng rfl <| sng rfl <| sng rfl <| sng rfl <| sng rfl <| sv (vpkt rfl) <| sv (vmB rfl) <| sng rfl <| sng rfl <| sng rfl <| sng rfl <| sng rfl <| sv (vpkt rfl) <| sv (vmB rfl) <| sng rfl <| sng rfl <| sng rfl <| sng rfl <| sng rfl <| sv (vpkt rfl) <| sv (vmB rfl) <| sng rfl <| sng rfl <| sng rfl <| sng rfl <| sng rfl <| sv (vpkt rfl) <| sv (vmB rfl) <| sng rfl <| sng rfl <| sng rfl <| sng rfl <| sng rfl <| sv (vpkt rfl) <| sv (vmB rfl) <| sng rfl <| sng rfl <| sng rfl <| sng rfl <| sng rfl <| sng rfl <| sv (vpkt rfl) <| WL.nil <| WX.mid () trivial ⟨bT (by first | omega | simp_all | grind), trivial⟩ ⟨rfl, rfl, rfl, trivial⟩ (fun _ h => Sb.own (by repeat' (first | with_reducible exact Sb.all | exact Sb.nil | (apply Sb.cons; focus (first | ((repeat (first | with_reducible exact Tk.here | with_reducible apply Tk.there)); done) | ((repeat (first | exact Tk.here | apply Tk.there)); done))) | apply Sb.drop)) h)
          ·
            refine sv (vpkf rfl) <| sv (vmB rfl) <| svg rfl (vfldp fl28f2 rfl) <| svg rfl (vldc pl3 rfl) <| svg rfl (vfldp fl28f2 rfl) <| svg rfl (vldc pl3 rfl) <| svsg rfl (vne rfl rfl) (fun q3 => ?_) (fun q3 => ?_)
            ·
              exact sv (vpkf rfl) <| sv (vmB rfl) <| sng rfl <| sng rfl <| sng rfl <| sng rfl <| sng rfl <| sv (vpkt rfl) <| sv (vmB rfl) <| sng rfl <| sng rfl <| sng rfl <| sng rfl <| sng rfl <| sv (vpkt rfl) <| sv (vmB rfl) <| sng rfl <| sng rfl <| sng rfl <| sng rfl <| sng rfl <| sv (vpkt rfl) <| sv (vmB rfl) <| sng rfl <| sng rfl <| sng rfl <| sng rfl <| sng rfl <| sv (vpkt rfl) <| sv (vmB rfl) <| sng rfl <| sng rfl <| sng rfl <| sng rfl <| sng rfl <| sv (vpkt rfl) <| sv (vmB rfl) <| sng rfl <| sng rfl <| sng rfl <| sng rfl <| sng rfl <| sng rfl <| sv (vpkt rfl) <| WL.nil <| WX.mid () trivial ⟨bT (by first | omega | simp_all | grind), trivial⟩ ⟨rfl, rfl, rfl, trivial⟩ (fun _ h => Sb.own (by repeat' (first | with_reducible exact Sb.all | exact Sb.nil | (apply Sb.cons; focus (first | ((repeat (first | with_reducible exact Tk.here | with_reducible apply Tk.there)); done) | ((repeat (first | exact Tk.here | apply Tk.there)); done))) | apply Sb.drop)) h)
            ·
              refine sv (vpkf rfl) <| sv (vmB rfl) <| svg rfl (vfldp fl28f3 rfl) <| svg rfl (vldc pl3 rfl) <| svg rfl (vfldp fl28f3 rfl) <| svg rfl (vldc pl3 rfl) <| svsg rfl (vne rfl rfl) (fun q4 => ?_) (fun q4 => ?_)
              ·
                exact sv (vpkf rfl) <| sv (vmB rfl) <| sng rfl <| sng rfl <| sng rfl <| sng rfl <| sng rfl <| sv (vpkt rfl) <| sv (vmB rfl) <| sng rfl <| sng rfl <| sng rfl <| sng rfl <| sng rfl <| sv (vpkt rfl) <| sv (vmB rfl) <| sng rfl <| sng rfl <| sng rfl <| sng rfl <| sng rfl <| sv (vpkt rfl) <| sv (vmB rfl) <| sng rfl <| sng rfl <| sng rfl <| sng rfl <| sng rfl <| sv (vpkt rfl) <| sv (vmB rfl) <| sng rfl <| sng rfl <| sng rfl <| sng rfl <| sng rfl <| sng rfl <| sv (vpkt rfl) <| WL.nil <| WX.mid () trivial ⟨bT (by first | omega | simp_all | grind), trivial⟩ ⟨rfl, rfl, rfl, trivial⟩ (fun _ h => Sb.own (by repeat' (first | with_reducible exact Sb.all | exact Sb.nil | (apply Sb.cons; focus (first | ((repeat (first | with_reducible exact Tk.here | with_reducible apply Tk.there)); done) | ((repeat (first | exact Tk.here | apply Tk.there)); done))) | apply Sb.drop)) h)
              ·
                refine sv (vpkf rfl) <| sv (vmB rfl) <| svg rfl (vfldp fl28f4 rfl) <| svg rfl (vldc pl3 rfl) <| svg rfl (vfldp fl28f4 rfl) <| svg rfl (vldc pl3 rfl) <| svsg rfl (vne rfl rfl) (fun q5 => ?_) (fun q5 => ?_)
                ·
                  exact sv (vpkf rfl) <| sv (vmB rfl) <| sng rfl <| sng rfl <| sng rfl <| sng rfl <| sng rfl <| sv (vpkt rfl) <| sv (vmB rfl) <| sng rfl <| sng rfl <| sng rfl <| sng rfl <| sng rfl <| sv (vpkt rfl) <| sv (vmB rfl) <| sng rfl <| sng rfl <| sng rfl <| sng rfl <| sng rfl <| sv (vpkt rfl) <| sv (vmB rfl) <| sng rfl <| sng rfl <| sng rfl <| sng rfl <| sng rfl <| sng rfl <| sv (vpkt rfl) <| WL.nil <| WX.mid () trivial ⟨bT (by first | omega | simp_all | grind), trivial⟩ ⟨rfl, rfl, rfl, trivial⟩ (fun _ h => Sb.own (by repeat' (first | with_reducible exact Sb.all | exact Sb.nil | (apply Sb.cons; focus (first | ((repeat (first | with_reducible exact Tk.here | with_reducible apply Tk.there)); done) | ((repeat (first | exact Tk.here | apply Tk.there)); done))) | apply Sb.drop)) h)
                ·
                  refine sv (vpkf rfl) <| sv (vmB rfl) <| svg rfl (vfldp fl28f5 rfl) <| svg rfl (vldc pl3 rfl) <| svg rfl (vfldp fl28f5 rfl) <| svg rfl (vldc pl3 rfl) <| svsg rfl (vne rfl rfl) (fun q6 => ?_) (fun q6 => ?_)
                  ·
                    exact sv (vpkf rfl) <| sv (vmB rfl) <| sng rfl <| sng rfl <| sng rfl <| sng rfl <| sng rfl <| sv (vpkt rfl) <| sv (vmB rfl) <| sng rfl <| sng rfl <| sng rfl <| sng rfl <| sng rfl <| sv (vpkt rfl) <| sv (vmB rfl) <| sng rfl <| sng rfl <| sng rfl <| sng rfl <| sng rfl <| sng rfl <| sv (vpkt rfl) <| WL.nil <| WX.mid () trivial ⟨bT (by first | omega | simp_all | grind), trivial⟩ ⟨rfl, rfl, rfl, trivial⟩ (fun _ h => Sb.own (by repeat' (first | with_reducible exact Sb.all | exact Sb.nil | (apply Sb.cons; focus (first | ((repeat (first | with_reducible exact Tk.here | with_reducible apply Tk.there)); done) | ((repeat (first | exact Tk.here | apply Tk.there)); done))) | apply Sb.drop)) h)
                  ·
                    refine sv (vpkf rfl) <| sv (vmB rfl) <| svg rfl (vfldp fl28f6 rfl) <| svg rfl (vldc pl3 rfl) <| svg rfl (vfldp fl28f6 rfl) <| svg rfl (vldc pl3 rfl) <| svsg rfl (vne rfl rfl) (fun q7 => ?_) (fun q7 => ?_)
                    ·
                      exact sv (vpkf rfl) <| sv (vmB rfl) <| sng rfl <| sng rfl <| sng rfl <| sng rfl <| sng rfl <| sv (vpkt rfl) <| sv (vmB rfl) <| sng rfl <| sng rfl <| sng rfl <| sng rfl <| sng rfl <| sng rfl <| sv (vpkt rfl) <| WL.nil <| WX.mid () trivial ⟨bT (by first | omega | simp_all | grind), trivial⟩ ⟨rfl, rfl, rfl, trivial⟩ (fun _ h => Sb.own (by repeat' (first | with_reducible exact Sb.all | exact Sb.nil | (apply Sb.cons; focus (first | ((repeat (first | with_reducible exact Tk.here | with_reducible apply Tk.there)); done) | ((repeat (first | exact Tk.here | apply Tk.there)); done))) | apply Sb.drop)) h)
                    ·
                      refine sv (vpkf rfl) <| sv (vmB rfl) <| svg rfl (vfldp fl28f7 rfl) <| svg rfl (vldc pl4 rfl) <| svg rfl (vfldp fl28f7 rfl) <| svg rfl (vldc pl4 rfl) <| svsg rfl (vneb Try.underlying4 rfl rfl) (fun q8 => ?_) (fun q8 => ?_)
                      ·
                        exact sv (vpkf rfl) <| sv (vmB rfl) <| sng rfl <| sng rfl <| sng rfl <| sng rfl <| sng rfl <| sng rfl <| sv (vpkt rfl) <| WL.nil <| WX.mid () trivial ⟨bT (by first | omega | simp_all | grind), trivial⟩ ⟨rfl, rfl, rfl, trivial⟩ (fun _ h => Sb.own (by repeat' (first | with_reducible exact Sb.all | exact Sb.nil | (apply Sb.cons; focus (first | ((repeat (first | with_reducible exact Tk.here | with_reducible apply Tk.there)); done) | ((repeat (first | exact Tk.here | apply Tk.there)); done))) | apply Sb.drop)) h)
                      ·
                        refine sv (vpkf rfl) <| sv (vmB rfl) <| svg rfl (vfldp fl28f8 rfl) <| svg rfl (vldc pl22 rfl) <| svg rfl (vfldp fl28f8 rfl) <| svg rfl (vldc pl22 rfl) <| gy rfl <| clx (by repeat' (first | with_reducible exact Sb.all | exact Sb.nil | (apply Sb.cons; focus (first | ((repeat (first | with_reducible exact Tk.here | with_reducible apply Tk.there)); done) | ((repeat (first | exact Tk.here | apply Tk.there)); done))) | apply Sb.drop)) (ref_samecells (hR := hmr fun _ h => h.tail.tail) (hS := hor fun _ h => h.tail.tail) hml) ct19 rfl fun r27 hr27 => ?_
                        exact svg rfl (vnot rfl) <| sv (vpkf rfl) <| WL.nil <| WX.mid () trivial ⟨bB ⟨fun h => by simp at h; simp [h], fun h => by simp_all⟩, trivial⟩ ⟨rfl, rfl, rfl, trivial⟩ (fun _ h => Sb.own (by repeat' (first | with_reducible exact Sb.all | exact Sb.nil | (apply Sb.cons; focus (first | ((repeat (first | with_reducible exact Tk.here | with_reducible apply Tk.there)); done) | ((repeat (first | exact Tk.here | apply Tk.there)); done))) | apply Sb.drop)) h)
      refine WC.ite rfl (fun h3 => ?_) (fun h3 => ?_)
      · -- then
        have hne : m.ml ≠ o.ml := fun h => by
          have h' := h
          simp only [Mh.ml, Ml.mk.injEq] at h'
          rcases h3 with h3 | h3 | h3 | h3 | h3 | h3 | h3 | h3 | h3
          · exact h3 h'.1
          · exact h3 h'.2.1
          · exact h3 h'.2.2.1
          · exact h3 h'.2.2.2.1
          · exact h3 h'.2.2.2.2.1
          · exact h3 h'.2.2.2.2.2.1
          · exact h3 h'.2.2.2.2.2.2.1
          · exact h3 h'.2.2.2.2.2.2.2.1
          · exact h3 h'.2.2.2.2.2.2.2.2
        exact WC.seq <| WC.region <| sv (vaB rfl) <| WL.nil <| WX.thenN <| WC.ret <| WX.blockR <| WX.thenR <| WX.thenR <| WX.blockR <| WX.thenR <| WX.ret1 rfl (()) (trivial) (bF (fun h => hne (by have := congrArg (fun q => q[i]?) h; simpa [hm, ho] using this))) (fun _ h => Sb.own (by repeat' (first | with_reducible exact Sb.all | exact Sb.nil | (apply Sb.cons; focus (first | ((repeat (first | with_reducible exact Tk.here | with_reducible apply Tk.there)); done) | ((repeat (first | exact Tk.here | apply Tk.there)); done))) | apply Sb.drop)) h)
      · -- else
        have heq : m.ml = o.ml := by
          simp only [not_or, Decidable.not_not, ne_eq] at h3
          simp only [Mh.ml, Ml.mk.injEq]
          exact h3
        exact WC.skip <| WX.blockN <| WX.thenN <| WC.region <| sv (vmI rfl) <| sv (vadd rfl rfl (by omega)) <| sv (vaI rfl) <| WL.nil <| WX.again (i + 1) (⟨by omega, by rw [List.take_add_one, List.take_add_one, hm, ho, List.map_append, List.map_append, hi.2]; simp [heq]⟩) (by omega) ⟨rfl, trivial⟩ ⟨rfl, rfl, trivial⟩ (fun _ h => Sb.own (by repeat' (first | with_reducible exact Sb.all | exact Sb.nil | (apply Sb.cons; focus (first | ((repeat (first | with_reducible exact Tk.here | with_reducible apply Tk.there)); done) | ((repeat (first | exact Tk.here | apply Tk.there)); done))) | apply Sb.drop)) h)
    · -- else
      exact WC.exit <| WX.thenE <| WX.thenE <| WX.blockH <| WX.thenN <| WC.seq <| WC.region <| sv (vaB rfl) <| WL.nil <| WX.thenN <| WC.ret <| WX.ret1 rfl (()) (trivial) (bT (by have := hi.2; rwa [List.take_of_length_le (by omega), List.take_of_length_le (by omega)] at this)) (fun _ h => Sb.own (by repeat' (first | with_reducible exact Sb.all | exact Sb.nil | (apply Sb.cons; focus (first | ((repeat (first | with_reducible exact Tk.here | with_reducible apply Tk.there)); done) | ((repeat (first | exact Tk.here | apply Tk.there)); done))) | apply Sb.drop)) h)
theorem ref_same_eq {w0 : World} {A : List HProp} {ca cb : Nat} {a b : Option Addr} (k l : List Mh) (hR : RdC w0 A a (mvs k)) (hS : RdC w0 A b (mvs l)) (hk : k.length ≤ 9223372036854775807 ∧ ∀ m ∈ k, m.cs.xs.length ≤ 9223372036854775807) (hra : ∀ m ∈ k, RdC w0 A m.cs.base (cvs m.cs.xs)) (hrb : ∀ m ∈ l, RdC w0 A m.cs.base (cvs m.cs.xs)) (he : k.map Mh.ml = l.map Mh.ml) :
    Fun Try.prog w0 14 [.slice a k.length ca, .slice b l.length cb] A (Ret w0 (fun _ : Unit => True) (fun _ => .bool true) (fun _ => A)) := by
  have h := ref_same (w0 := w0) (A := A) (ca := ca) (cb := cb) (a := a) (b := b) k l hR hS hk hra hrb
  rwa [decide_eq_true he] at h
theorem law_small {w0 : World} {A : List HProp} {c : Nat} {base : Option Addr} {l : List Cl} {most : Int} (hl : l.length ≤ 9223372036854775807) [hR : Reads w0 A base (cvs l)] :
    Fun Try.prog w0 8 [.slice base l.length c, .int .i64 most] A (Ret w0 (fun _ : Unit => True) (fun _ => .bool (decide ((l.length : Int) ≤ most ∧ ∀ d ∈ l, d.data.size ≤ 5000))) (fun _ => A)) := by
  refine Fun.enter Try.func8 rfl Try.ntmps8 rfl ?_
  refine WC.seq <| WC.region <| sv (vaB rfl) <| WL.nil <| WX.thenN <| WC.seq <| WC.seq <| WC.region <| sv (vmS rfl) <| sv (vlen Try.underlying22 rfl) <| sv (vmI rfl) <| sv (vgt rfl rfl) <| WL.nil <| WX.thenN <| ?_
  refine WC.ite rfl (fun h1 => ?_) (fun h1 => ?_)
  · -- then
    exact WC.seq <| WC.region <| sv (vaB rfl) <| WL.nil <| WX.thenN <| WC.ret <| WX.thenR <| WX.ret1 rfl (()) (trivial) (bF (fun h => by omega)) (fun _ h => Sb.own (by repeat' (first | with_reducible exact Sb.all | exact Sb.nil | (apply Sb.cons; focus (first | ((repeat (first | with_reducible exact Tk.here | with_reducible apply Tk.there)); done) | ((repeat (first | exact Tk.here | apply Tk.there)); done))) | apply Sb.drop)) h)
  · -- else
    refine WC.skip <| WX.thenN <| WC.seq <| WC.seq <| WC.region <| sv (vaI rfl) <| WL.nil <| WX.thenN <| WC.block <| ?_
    refine WC.loopS (ι := Nat) (fun i => [(5, .int .i64 i)]) [(0, .slice _ _ _)] (fun i => i ≤ l.length ∧ ∀ d ∈ l.take i, d.data.size ≤ 5000) (fun i => l.length - i) (0) (⟨by omega, by simp⟩) ⟨rfl, trivial⟩ ⟨rfl, trivial⟩ ?_
    intro i hi ρh
    refine WC.seq <| WC.seq <| WC.region <| sv (vmI rfl) <| sv (vmS rfl) <| sv (vlen Try.underlying22 rfl) <| sv (vlt rfl rfl) <| WL.nil <| WX.thenN <| ?_
    refine WC.ite rfl (fun h2 => ?_) (fun h2 => ?_)
    · -- then
      have hil : i < l.length := by omega
      obtain ⟨d, hd⟩ : ∃ d, l[i]? = some d := ⟨_, List.getElem?_eq_getElem hil⟩
      have hlc := cvs_length l
      have hpos : 0 < (cvs l).length := by omega
      have hf1 : (cvs l)[((i : Int)).toNat * 2 + 1]? = some (.string d.data) := by rw [Int.toNat_natCast, cvs_at hd (by omega)]; rfl
      refine WC.known (fun w h => rsome (base := base) hpos reads h) fun hb => ?_
      refine WC.skip <| WX.thenN <| WC.seq <| WC.block <| WC.seq <| WC.region <| sv (vmS rfl) <| sv (vmI rfl) <| sv (vix Try.underlying22 sz39 rfl rfl (by omega) (by omega) reads (hpos)) <| sv (vfldr (hb) fl39f1 rfl) <| sv (vldo pl9 rfl reads (hf1)) <| sv (vlens Try.underlying9 rfl) <| sv (vgt rfl rfl) <| WL.nil <| WX.thenN <| ?_
      refine WC.ite rfl (fun h3 => ?_) (fun h3 => ?_)
      · -- then
        exact WC.seq <| WC.region <| sv (vaB rfl) <| WL.nil <| WX.thenN <| WC.ret <| WX.blockR <| WX.thenR <| WX.thenR <| WX.blockR <| WX.thenR <| WX.ret1 rfl (()) (trivial) (bF (fun h => by have := h.2 d (List.mem_of_getElem? hd); omega)) (fun _ h => Sb.own (by repeat' (first | with_reducible exact Sb.all | exact Sb.nil | (apply Sb.cons; focus (first | ((repeat (first | with_reducible exact Tk.here | with_reducible apply Tk.there)); done) | ((repeat (first | exact Tk.here | apply Tk.there)); done))) | apply Sb.drop)) h)
      · -- else
        exact WC.skip <| WX.blockN <| WX.thenN <| WC.region <| sv (vmI rfl) <| sv (vadd rfl rfl (by omega)) <| sv (vaI rfl) <| WL.nil <| WX.again (i + 1) (⟨by omega, fun e he => by rw [List.take_add_one, hd] at he; exact (List.mem_append.1 he).elim (hi.2 e) (fun he => by have : e = d := (by simpa using he); subst this; omega)⟩) (by omega) ⟨rfl, trivial⟩ ⟨rfl, trivial⟩ (fun _ h => Sb.own (by repeat' (first | with_reducible exact Sb.all | exact Sb.nil | (apply Sb.cons; focus (first | ((repeat (first | with_reducible exact Tk.here | with_reducible apply Tk.there)); done) | ((repeat (first | exact Tk.here | apply Tk.there)); done))) | apply Sb.drop)) h)
    · -- else
      exact WC.exit <| WX.thenE <| WX.thenE <| WX.blockH <| WX.thenN <| WC.seq <| WC.region <| sv (vaB rfl) <| WL.nil <| WX.thenN <| WC.ret <| WX.ret1 rfl (()) (trivial) (bT ⟨by omega, by have := hi.2; rwa [List.take_of_length_le (by omega)] at this⟩) (fun _ h => Sb.own (by repeat' (first | with_reducible exact Sb.all | exact Sb.nil | (apply Sb.cons; focus (first | ((repeat (first | with_reducible exact Tk.here | with_reducible apply Tk.there)); done) | ((repeat (first | exact Tk.here | apply Tk.there)); done))) | apply Sb.drop)) h)
theorem cvs_set {l : List Cl} {i : Nat} {c : Cl} (h : i < l.length) : splice (cvs l) (i * 2) (cv c) = cvs (l.set i c) := by
  unfold splice
  have e : i * 2 + (cv c).length = (i + 1) * 2 := by show i * 2 + 2 = _; omega
  rw [e, cvs_take, cvs_drop, List.set_eq_take_append_cons_drop, if_pos h]
  have : cv c = cvs [c] := by simp [cvs]
  rw [this, ← cvs_append, ← cvs_append, List.append_assoc]; rfl
theorem mvs_drop (l : List Mh) (i : Nat) : (mvs l).drop (i * 9) = mvs (l.drop i) := by
  by_cases hi : i ≤ l.length
  · have h1 : mvs l = mvs (l.take i) ++ mvs (l.drop i) := by unfold mvs; rw [← List.flatMap_append, List.take_append_drop]
    rw [h1, List.drop_append_of_le_length (by rw [mvs_length, List.length_take]; omega), List.drop_eq_nil_of_le (by rw [mvs_length, List.length_take]; omega), List.nil_append]
  · rw [List.drop_eq_nil_of_le (by rw [mvs_length]; omega), List.drop_eq_nil_of_le (by omega)]; rfl
theorem mvs_take (l : List Mh) (i : Nat) : (mvs l).take (i * 9) = mvs (l.take i) := by
  by_cases hi : i ≤ l.length
  · have h1 : mvs l = mvs (l.take i) ++ mvs (l.drop i) := by unfold mvs; rw [← List.flatMap_append, List.take_append_drop]
    rw [h1, List.take_left' (by rw [mvs_length, List.length_take]; omega)]
  · rw [List.take_of_length_le (by rw [mvs_length]; omega), List.take_of_length_le (by omega)]
theorem mvs_set {l : List Mh} {i : Nat} {m : Mh} (h : i < l.length) : splice (mvs l) (i * 9) (mv m) = mvs (l.set i m) := by
  unfold splice
  have e : i * 9 + (mv m).length = (i + 1) * 9 := by show i * 9 + 9 = _; omega
  rw [e, mvs_take, mvs_drop, List.set_eq_take_append_cons_drop, if_pos h]
  have : mv m = mvs [m] := by simp [mvs]
  rw [this]
  unfold mvs
  rw [← List.flatMap_append, ← List.flatMap_append, List.append_assoc]; rfl
abbrev goneC : Cl := ⟨0, ⟨#[103, 111, 110, 101]⟩⟩
abbrev zeroM : Mh := ⟨0, 0, 0, 0, 0, 0, 0, false, ⟨none, [], 0⟩⟩
theorem law_spoil {w0 : World} {R : List HProp} {c : Nat} {base : Option Addr} {ms : List Mh} (hl : ms.length ≤ 9223372036854775807) (hml : ∀ m ∈ ms, m.cs.xs.length ≤ 9223372036854775807) :
    Fun Try.prog w0 20 [.slice base ms.length c] (row base c 9 28 (mvs ms) :: mrows ms :: R) (Ret w0 (fun _ : Unit => True) (fun _ => .tuple #[]) (fun _ => R)) := by
  refine Fun.enter Try.func20 rfl Try.ntmps20 rfl ?_
  refine WC.seq <| WC.region <| sv (vaI rfl) <| WL.nil <| WX.thenN <| WC.block <| ?_
  refine WC.loop (ι := Nat × List Mh) (fun i => [(2, .int .i64 i.1)]) [(0, .slice _ _ _)] (fun i => row base c 9 28 (mvs i.2) :: mrows (ms.drop i.1) :: R) (fun i => i.1 ≤ ms.length ∧ i.2.length = ms.length ∧ i.2.drop i.1 = ms.drop i.1) (fun i => ms.length - i.1) ((0, ms)) (⟨by omega, rfl, rfl⟩) ⟨rfl, trivial⟩ ⟨rfl, trivial⟩ (fun _ h => Sb.own (by repeat' (first | with_reducible exact Sb.all | exact Sb.nil | (apply Sb.cons; focus (first | ((repeat (first | with_reducible exact Tk.here | with_reducible apply Tk.there)); done) | ((repeat (first | exact Tk.here | apply Tk.there)); done))) | apply Sb.drop)) h) ?_
  rintro ⟨i, l⟩ ⟨hi1, hi2, hi3⟩ ρh
  dsimp only at hi1 hi2 hi3 ⊢
  refine WC.seq <| WC.seq <| WC.region <| sv (vmI rfl) <| sv (vmS rfl) <| sv (vlen Try.underlying43 rfl) <| sv (vlt rfl rfl) <| WL.nil <| WX.thenN <| ?_
  refine WC.ite rfl (fun h1 => ?_) (fun h1 => ?_)
  · -- then
    have him : i < ms.length := by omega
    obtain ⟨m, hm⟩ : ∃ m, ms[i]? = some m := ⟨_, List.getElem?_eq_getElem him⟩
    have hlm : l[i]? = some m := by have := congrArg (fun q => q[0]?) hi3; simpa [hm] using this
    have hdm : ms.drop i = m :: ms.drop (i + 1) := by rw [List.drop_eq_getElem_cons him, (List.getElem?_eq_some_iff.1 hm).2]
    have hlv := mvs_length l
    have hpos : 0 < (mvs l).length := by omega
    have hf8 : (mvs l)[((i : Int)).toNat * 9 + 8]? = some (.slice m.cs.base m.cs.xs.length m.cs.cap) := by rw [Int.toNat_natCast, mvs_at hlm (by omega)]; rfl
    have hmm := hml m (List.mem_of_getElem? hm)
    rw [hdm]
    refine WC.perm (A' := row base c 9 28 (mvs l) :: row m.cs.base m.cs.cap 2 39 (cvs m.cs.xs) :: mrows (ms.drop (i + 1)) :: R) ?_ (fun w h => (Own.star h.pk1).ix [2, 0, 1])
    refine WC.skip <| WX.thenN <| WC.seq <| WC.block <| WC.seq <| WC.seq <| WC.region <| sv (vaI rfl) <| WL.nil <| WX.thenN <| WC.block <| ?_
    refine WC.loop (ι := Nat × List Cl) (fun j => [(3, .int .i64 j.1)]) [(0, .slice _ _ _), (2, .int _ _)] (fun j => row base c 9 28 (mvs l) :: row m.cs.base m.cs.cap 2 39 (cvs j.2) :: mrows (ms.drop (i + 1)) :: R) (fun j => j.1 ≤ m.cs.xs.length ∧ j.2.length = m.cs.xs.length) (fun j => m.cs.xs.length - j.1) ((0, m.cs.xs)) (⟨by omega, rfl⟩) ⟨rfl, trivial⟩ ⟨rfl, rfl, trivial⟩ (fun _ h => Sb.own (by repeat' (first | with_reducible exact Sb.all | exact Sb.nil | (apply Sb.cons; focus (first | ((repeat (first | with_reducible exact Tk.here | with_reducible apply Tk.there)); done) | ((repeat (first | exact Tk.here | apply Tk.there)); done))) | apply Sb.drop)) h) ?_
    rintro ⟨k, xs⟩ ⟨hk1, hk2⟩ ρh
    dsimp only at hk1 hk2 ⊢
    have hxl := cvs_length xs
    refine WC.known (fun w h => rsome (base := base) hpos (RdC.of_row (List.Mem.head _)) h) fun hb => ?_
    refine WC.seq <| WC.seq <| WC.region <| sv (vmI rfl) <| sv (vmS rfl) <| sv (vmI rfl) <| sv (vix Try.underlying43 sz28 rfl rfl (by omega) (by omega) reads (hpos)) <| sv (vfldr (hb) fl28f8 rfl) <| sv (vldo pl22 rfl reads (hf8)) <| sv (vlen Try.underlying22 rfl) <| sv (vlt rfl rfl) <| WL.nil <| WX.thenN <| ?_
    refine WC.ite rfl (fun h2 => ?_) (fun h2 => ?_)
    · -- then
      have hpos2 : 0 < (cvs xs).length := by omega
      exact WC.skip <| WX.thenN <| WC.seq <| WC.block <| WC.region <| sv (vmS rfl) <| sv (vmI rfl) <| sv (vix Try.underlying43 sz28 rfl rfl (by omega) (by omega) reads (hpos)) <| sv (vfldr (hb) fl28f8 rfl) <| sv (vldo pl22 rfl reads (hf8)) <| sv (vmI rfl) <| sv (vbd (ps := [(1, (.string (ByteArray.mk #[103, 111, 110, 101])))]) (cs := [_, _]) bt39 zt39 rfl (by rfl)) <| sv (vix Try.underlying22 sz39 rfl rfl (by omega) (by omega) reads hpos2) <| staRp (vs' := cvs (xs.set k goneC)) sz39 rfl rfl rfl rfl (by decide) (by show ((k : Int)).toNat * 2 + 2 ≤ _; omega) (by rw [Int.toNat_natCast]; exact cvs_set (l := xs) (i := k) (c := goneC) (by omega)) <| WL.nil <| WX.blockN <| WX.thenN <| WC.region <| sv (vmI rfl) <| sv (vadd rfl rfl (by omega)) <| sv (vaI rfl) <| WL.nil <| WX.again ((k + 1, xs.set k goneC)) (⟨by omega, by rw [List.length_set]; exact hk2⟩) (by omega) ⟨rfl, trivial⟩ ⟨rfl, rfl, trivial⟩ (fun _ h => Sb.own (by repeat' (first | with_reducible exact Sb.all | exact Sb.nil | (apply Sb.cons; focus (first | ((repeat (first | with_reducible exact Tk.here | with_reducible apply Tk.there)); done) | ((repeat (first | exact Tk.here | apply Tk.there)); done))) | apply Sb.drop)) h)
    · -- else
      exact WC.exit <| WX.thenE <| WX.thenE <| WX.blockH <| WX.thenN <| WC.region <| sv (vmS rfl) <| sv (vmI rfl) <| sv (vbd (ps := []) (cs := [_, _, _, _, _, _, _, _, _]) bt28 zt28 rfl (by rfl)) <| sv (vix Try.underlying43 sz28 rfl rfl (by omega) (by omega) reads (hpos)) <| staRp (vs' := mvs (l.set i zeroM)) sz28 rfl rfl rfl rfl (by decide) (by show ((i : Int)).toNat * 9 + 9 ≤ _; omega) (by rw [Int.toNat_natCast]; exact mvs_set (l := l) (i := i) (m := zeroM) (by omega)) <| WL.nil <| WX.blockN <| WX.thenN <| WC.region <| sv (vmI rfl) <| sv (vadd rfl rfl (by omega)) <| sv (vaI rfl) <| WL.nil <| WX.again ((i + 1, l.set i zeroM)) (⟨by omega, by rw [List.length_set]; exact hi2, by rw [List.drop_set_of_lt (by omega)]; have := congrArg (List.drop 1) hi3; simpa [List.drop_drop] using this⟩) (by omega) ⟨rfl, trivial⟩ ⟨rfl, trivial⟩ (fun _ h => Sb.own (by repeat' (first | with_reducible exact Sb.all | exact Sb.nil | (apply Sb.cons; focus (first | ((repeat (first | with_reducible exact Tk.here | with_reducible apply Tk.there)); done) | ((repeat (first | exact Tk.here | apply Tk.there)); done))) | apply Sb.drop)) h)
  · -- else
    exact WC.exit <| WX.thenE <| WX.thenE <| WX.blockH <| WX.end0 rfl (()) (trivial) rfl (fun _ h => Sb.own (by repeat' (first | with_reducible exact Sb.all | exact Sb.nil | (apply Sb.cons; focus (first | ((repeat (first | with_reducible exact Tk.here | with_reducible apply Tk.there)); done) | ((repeat (first | exact Tk.here | apply Tk.there)); done))) | apply Sb.drop)) h)
end Go.Proofs.Ytekoilhjlofncaa
