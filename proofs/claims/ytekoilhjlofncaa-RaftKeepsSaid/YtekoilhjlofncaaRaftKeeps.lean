/-
  Layer 19: terms, votes and committed cells stay.
-/
import Derived.Test.YtekoilhjlofncaaRaftDoes
import Derived.Test.YtekoilhjlofncaaRaftKeepB
set_option linter.unusedVariables false
set_option linter.unusedSimpArgs false
set_option maxRecDepth 4000
set_option maxHeartbeats 400000
namespace Go.Proofs.Ytekoilhjlofncaa
open Go.Sl Go.RowKit Go.Raft

structure KI where
  k : Nat
  x : Rn
  b : Option Addr
  c : Nat
structure KR (id n : Int) (m : Nat) (kk : Nat) (x : Rn) (c : Nat) : Prop where
  k : kk ≤ m
  inv : RInv x
  ld : Ld x
  id : x.id = id
  n : x.n = n
  waited : x.waited ≤ kk
  cap : x.log.length ≤ c
structure KJ (x y : Rn) : Prop where
  kp : Kp x y
  inv : RInv y
  ld : Ld y
  kin : y.id = x.id ∧ y.n = x.n ∧ (y.waited ≤ x.waited + 1 ∨ y.waited ≤ 0)
theorem ref_may_yes {w0 : World} {A : List HProp} {n t v : Int} {l : List Cl} {b : Option Addr} {c : Nat} (hl : l.length ≤ 1099511627776) [hR : Reads w0 A b (cvs l)] (h : mayS n t v l) :
    Fun Try.prog w0 11 [.int .i64 n, .agg (scells t v b l c).toArray] A (Ret w0 (fun _ : Unit => True) (fun _ => .bool true) (fun _ => A)) := by
  have h1 := ref_may (w0 := w0) (A := A) (n := n) (t := t) (v := v) (l := l) (b := b) (c := c) hl
  rwa [decide_eq_true h] at h1
theorem walk_keeps {w0 : World} {A : List HProp} {id n t v : Int} {sb ob : Option Addr} {sc oc : Nat} {sl : List Cl} {ops : List OpR} (hs : Rd w0 sb (cvs sl)) (hsc : sl.length ≤ 9223372036854775807) (ho : Rd w0 ob (ops.flatMap opr))
    (hx : ∀ o ∈ ops, Rd w0 o.m.cs.base (cvs o.m.cs.xs) ∧ o.m.cs.xs.length ≤ o.m.cs.cap ∧ o.m.cs.xs.length ≤ 9223372036854775807) :
    Fun Try.prog w0 6 [.int .i64 id, .int .i64 n, .agg (scells t v sb sl sc).toArray, .slice ob ops.length oc] A (Ret w0 (fun _ : Unit => True) (fun _ => .bool true) (fun _ => A)) := by
  have hfl := flat_len (opr_len ops)
  have hRs : ∀ {B : List HProp}, Reads w0 B sb (cvs sl) := ⟨RdC.old hs⟩
  have hRo : ∀ {B : List HProp}, Reads w0 B ob (ops.flatMap opr) := ⟨RdC.old ho⟩
  refine Fun.enter Try.func6 rfl Try.ntmps6 rfl ?_
  refine WC.seq <| WC.region <| bxc (v := .agg _) (cs := [.int _ _, .int _ _, .slice _ _ _]) rfl rfl fun b1 => sv (vaB rfl) <| WL.nil <| WX.thenN <| WC.seq <| ?_
  refine WC.cut0 [(25, .bool (decide ((200 : Int) < ops.length ∨ ¬ ((sl.length : Int) ≤ 60 ∧ ∀ d ∈ sl, d.data.size ≤ 5000))))] [(0, .int _ _), (1, .int _ _), (3, .slice _ _ _), (6, _)] (cel b1 (scells t v sb sl sc) 24 :: A) ⟨rfl, rfl, rfl, rfl, trivial⟩ ?_ fun ρh => ?_
  · -- more.go:11
    refine WC.region <| sv (vmS rfl) <| sv (vlen Try.underlying25 rfl) <| svs (vgt rfl rfl) (fun q1 => ?_) (fun q1 => ?_)
    ·
      exact sv (vmB rfl) <| sng rfl <| sng rfl <| sng rfl <| sng rfl <| sv (vpkt rfl) <| WL.nil <| WX.mid () trivial ⟨bT (by first | omega | simp_all | grind), trivial⟩ ⟨rfl, rfl, rfl, rfl, trivial⟩ (fun _ h => Sb.own (by repeat' (first | with_reducible exact Sb.all | exact Sb.nil | (apply Sb.cons; focus (first | ((repeat (first | with_reducible exact Tk.here | with_reducible apply Tk.there)); done) | ((repeat (first | exact Tk.here | apply Tk.there)); done))) | apply Sb.drop)) h)
    ·
      refine sv (vmB rfl) <| svg rfl (vfldp fl24f2 rfl) <| svg rfl (vldc pl22 rfl) <| gy rfl <| clx (by repeat' (first | with_reducible exact Sb.all | exact Sb.nil | (apply Sb.cons; focus (first | ((repeat (first | with_reducible exact Tk.here | with_reducible apply Tk.there)); done) | ((repeat (first | exact Tk.here | apply Tk.there)); done))) | apply Sb.drop)) (law_small (hR := hRs) hsc) ct8 rfl fun r3 hr3 => ?_
      exact svg rfl (vnot rfl) <| sv (vpkf rfl) <| WL.nil <| WX.mid () trivial ⟨bB ⟨fun h => .inr (by simpa only [Bool.not_eq_true', decide_eq_false_iff_not] using h), fun h => by simpa only [Bool.not_eq_true', decide_eq_false_iff_not] using h.resolve_left (by assumption)⟩, trivial⟩ ⟨rfl, rfl, rfl, rfl, trivial⟩ (fun _ h => Sb.own (by repeat' (first | with_reducible exact Sb.all | exact Sb.nil | (apply Sb.cons; focus (first | ((repeat (first | with_reducible exact Tk.here | with_reducible apply Tk.there)); done) | ((repeat (first | exact Tk.here | apply Tk.there)); done))) | apply Sb.drop)) h)
  refine WC.ite rfl (fun h1 => ?_) (fun h1 => ?_)
  · -- then
    exact WC.seq <| WC.region <| sv (vaB rfl) <| WL.nil <| WX.thenN <| WC.ret <| WX.thenR <| WX.ret1 rfl (()) (trivial) rfl (fun _ h => Sb.own (by repeat' (first | with_reducible exact Sb.all | exact Sb.nil | (apply Sb.cons; focus (first | ((repeat (first | with_reducible exact Tk.here | with_reducible apply Tk.there)); done) | ((repeat (first | exact Tk.here | apply Tk.there)); done))) | apply Sb.drop)) h)
  · -- else
    have hol : ops.length ≤ 200 := by omega
    have hsl : (sl.length : Int) ≤ 60 ∧ ∀ d ∈ sl, d.data.size ≤ 5000 := Decidable.not_not.1 fun h => h1 (.inr h)
    by_cases hno : ¬ newOk id n t v sl
    · -- no
      refine WC.skip <| WX.thenN <| WC.seq <| WC.region <| sv (vmI rfl) <| sv (vmI rfl) <| sv (vldac ag24 sz24 rfl rfl (by decide)) <| clx (by repeat' (first | with_reducible exact Sb.all | exact Sb.nil | (apply Sb.cons; focus (first | ((repeat (first | with_reducible exact Tk.here | with_reducible apply Tk.there)); done) | ((repeat (first | exact Tk.here | apply Tk.there)); done))) | apply Sb.drop)) (raft_new_no (l := sl) (hR := hRs) (by omega) hno) ct10 rfl fun r5 hr5 => ?_
      refine sv vmv <| sv (vex rfl rfl) <| sv (vex rfl rfl) <| sv (vaP rfl) <| sv (vaI rfl) <| WL.nil <| WX.thenN <| WC.seq <| ?_
      refine WC.cutS [(38, .bool true)] [(0, .int _ _), (1, .int _ _), (3, .slice _ _ _), (9, .pointer _), (10, .int _ _)] ⟨rfl, rfl, rfl, rfl, rfl, trivial⟩ ?_ fun ρh => ?_
      · -- more.go:15
        exact WC.region <| sv (vmI rfl) <| sv (vT (vne rfl rfl) (by omega)) <| sv (vmB rfl) <| sng rfl <| sng rfl <| sv (vpkt rfl) <| WL.nil <| WX.mid () trivial ⟨rfl, trivial⟩ ⟨rfl, rfl, rfl, rfl, rfl, trivial⟩ (fun _ h => Sb.own (by repeat' (first | with_reducible exact Sb.all | exact Sb.nil | (apply Sb.cons; focus (first | ((repeat (first | with_reducible exact Tk.here | with_reducible apply Tk.there)); done) | ((repeat (first | exact Tk.here | apply Tk.there)); done))) | apply Sb.drop)) h)
      refine WC.tt rfl ?_
      refine WC.cut0 [(8, .bool true)] [] (A) trivial ?_ fun ρh => ?_
      · -- more.go:16
        refine WC.region <| clx (by repeat' (first | with_reducible exact Sb.all | exact Sb.nil | (apply Sb.cons; focus (first | ((repeat (first | with_reducible exact Tk.here | with_reducible apply Tk.there)); done) | ((repeat (first | exact Tk.here | apply Tk.there)); done))) | apply Sb.drop)) (law_awake) ct12 rfl fun r7 hr7 => ?_
        exact sv (vmB rfl) <| svg rfl (vmP rfl) <| svg rfl (vpeqT Try.underlying32 rfl rfl) <| sv (vpkt rfl) <| sv (vmB rfl) <| svg rfl (vmI rfl) <| svg rfl (vT (veq rfl rfl) (by omega)) <| sv (vpkt rfl) <| sv (vaB rfl) <| WL.nil <| WX.mid () trivial ⟨rfl, trivial⟩ trivial (fun _ h => Sb.own (by repeat' (first | with_reducible exact Sb.all | exact Sb.nil | (apply Sb.cons; focus (first | ((repeat (first | with_reducible exact Tk.here | with_reducible apply Tk.there)); done) | ((repeat (first | exact Tk.here | apply Tk.there)); done))) | apply Sb.drop)) h)
      exact WC.ret <| WX.thenR <| WX.ret1 rfl (()) (trivial) rfl (fun _ h => Sb.own (by repeat' (first | with_reducible exact Sb.all | exact Sb.nil | (apply Sb.cons; focus (first | ((repeat (first | with_reducible exact Tk.here | with_reducible apply Tk.there)); done) | ((repeat (first | exact Tk.here | apply Tk.there)); done))) | apply Sb.drop)) h)
    · -- yes
      have hok : newOk id n t v sl := Decidable.not_not.1 hno
      have hok4 : 1 ≤ n ∧ n ≤ 5 ∧ 1 ≤ id ∧ id ≤ n := ⟨hok.1, hok.2.1, hok.2.2.1, hok.2.2.2.1⟩
      refine WC.skip <| WX.thenN <| WC.seq <| WC.region <| sv (vmI rfl) <| sv (vmI rfl) <| sv (vldac ag24 sz24 rfl rfl (by decide)) <| clx (by repeat' (first | with_reducible exact Sb.all | exact Sb.nil | (apply Sb.cons; focus (first | ((repeat (first | with_reducible exact Tk.here | with_reducible apply Tk.there)); done) | ((repeat (first | exact Tk.here | apply Tk.there)); done))) | apply Sb.drop)) (raft_new (l := sl) (hR := hRs) (by omega) hok) ct10 rfl fun r5 hr5 => ?_
      refine sv vmv <| sv (vex rfl rfl) <| sv (vex rfl rfl) <| sv (vaP rfl) <| sv (vaI rfl) <| WL.nil <| WX.thenN <| WC.seq <| ?_
      refine WC.cutS [(38, .bool false)] [(0, .int _ _), (1, .int _ _), (3, .slice _ _ _), (9, .pointer _), (10, .int _ _)] ⟨rfl, rfl, rfl, rfl, rfl, trivial⟩ ?_ fun ρh => ?_
      · -- more.go:15
        exact WC.region <| sv (vmI rfl) <| sv (vF (vne rfl rfl) (by omega)) <| sv (vmB rfl) <| svg rfl (vmP rfl) <| svg rfl (vpeqF Try.underlying32 rfl rfl) <| sv (vpkf rfl) <| WL.nil <| WX.mid () trivial ⟨rfl, trivial⟩ ⟨rfl, rfl, rfl, rfl, rfl, trivial⟩ (fun _ h => Sb.own (by repeat' (first | with_reducible exact Sb.all | exact Sb.nil | (apply Sb.cons; focus (first | ((repeat (first | with_reducible exact Tk.here | with_reducible apply Tk.there)); done) | ((repeat (first | exact Tk.here | apply Tk.there)); done))) | apply Sb.drop)) h)
      refine WC.ff rfl ?_
      refine WC.skip <| WX.thenN <| WC.seq <| WC.region <| sv (vmP rfl) <| clx (by repeat' (first | with_reducible exact Sb.all | exact Sb.nil | (apply Sb.cons; focus (first | ((repeat (first | with_reducible exact Tk.here | with_reducible apply Tk.there)); done) | ((repeat (first | exact Tk.here | apply Tk.there)); done))) | apply Sb.drop)) (raft_stable (x := newR id n t v sl) (RInv.new hok)) ct23 rfl fun r9 hr9 => ?_
      refine alz (cs := [.int .i64 0, .int .i64 0, .slice none 0 0]) zt24 (by rfl) fun b10 => stAp sz24 rfl rfl rfl (by intro v hv; simp only [List.mem_cons, List.not_mem_nil, or_false] at hv; rcases hv with rfl | rfl | rfl <;> rfl) rfl <| WL.nil <| WX.thenN <| WC.seq <| WC.region <| sv (vaI rfl) <| WL.nil <| WX.thenN <| WC.seq <| WC.seq <| WC.region <| sv (vaI rfl) <| WL.nil <| WX.thenN <| WC.block <| ?_
      refine WC.loop (ι := KI) (fun i => [(12, .int .i64 i.x.commit), (13, .int .i64 i.k)]) [(0, .int _ _), (1, .int _ _), (3, .slice _ _ _), (9, .pointer _), (11, _)] (fun i => hnode r5 i.x :: cel b10 (scells i.x.term i.x.vote i.b i.x.log i.c) 24 :: row i.b i.c 2 39 (cvs i.x.log) :: A) (fun i => KR id n ops.length i.k i.x i.c) (fun i => ops.length - i.k) (⟨0, newR id n t v sl, r9.1, r9.2⟩) (⟨Nat.zero_le _, RInv.new hok, Ld.new hok4.2.2.1, rfl, rfl, Int.le_refl _, hr9⟩) ⟨rfl, rfl, trivial⟩ ⟨rfl, rfl, rfl, rfl, rfl, trivial⟩ (fun _ h => Sb.own (by repeat' (first | with_reducible exact Sb.all | exact Sb.nil | (apply Sb.cons; focus (first | ((repeat (first | with_reducible exact Tk.here | with_reducible apply Tk.there)); done) | ((repeat (first | exact Tk.here | apply Tk.there)); done))) | apply Sb.drop)) h) ?_
      rintro ⟨k, x, base, c⟩ hkr ρh
      have hx0 : RInv x := hkr.inv
      have hid : x.id = id := hkr.id
      have hxn : x.n = n := hkr.n
      have hxw : x.waited ≤ (k : Int) := hkr.waited
      have hkm : k ≤ ops.length := hkr.k
      have hxc := hx0.commit
      have hxcap : x.log.length ≤ c := hkr.cap
      dsimp only
      refine WC.seq <| WC.seq <| WC.region <| sv (vmI rfl) <| sv (vmS rfl) <| sv (vlen Try.underlying25 rfl) <| sv (vlt rfl rfl) <| WL.nil <| WX.thenN <| ?_
      refine WC.ite rfl (fun h4 => ?_) (fun h4 => ?_)
      · -- then
        have hil : k < ops.length := by omega
        obtain ⟨o, hoe⟩ : ∃ o, ops[k]? = some o := ⟨_, List.getElem?_eq_getElem hil⟩
        have hoo := hx o (List.mem_of_getElem? hoe)
        have hpos : 0 < (ops.flatMap opr).length := by omega
        have hb := rd_some' ho hpos
        have hag : ((ops.flatMap opr).drop (((k : Int)).toNat * 11)).take 11 = opr o := by rw [Int.toNat_natCast, flat_take (opr_len ops) hil, (List.getElem?_eq_some_iff.1 hoe).2]
        refine WC.skip <| WX.thenN <| WC.seq <| WC.block <| WC.seq <| WC.region <| sv (vmS rfl) <| sv (vmI rfl) <| sv (vix Try.underlying25 sz30 rfl rfl (by omega) (by omega) reads (hpos)) <| sv (vlda ag30 sz30 rfl reads hag rfl (by decide)) <| alz (cs := [.int .i64 0, .int .i64 0, .int .i64 0, .int .i64 0, .int .i64 0, .int .i64 0, .int .i64 0, .int .i64 0, .bool false, .slice none 0 0, .string ByteArray.empty]) zt30 (by rfl) fun b14 => stAp sz30 rfl rfl rfl (by intro v hv; simp only [List.mem_cons, List.not_mem_nil, or_false] at hv; rcases hv with rfl | rfl | rfl | rfl | rfl | rfl | rfl | rfl | rfl | rfl | rfl <;> rfl) rfl <| WL.nil <| WX.thenN <| WC.seq <| ?_
        refine WC.cut0 [(70, .bool (decide (¬ ((o.m.cs.xs.length : Int) ≤ 20 ∧ ∀ d ∈ o.m.cs.xs, d.data.size ≤ 5000) ∨ (5000 : Int) < o.data.size)))] [(0, .int _ _), (1, .int _ _), (3, .slice _ _ _), (9, .pointer _), (11, _), (12, .int _ _), (13, .int _ _), (14, _)] (hnode r5 x :: cel b14 (opr o) 30 :: cel b10 (scells x.term x.vote base x.log c) 24 :: row base c 2 39 (cvs x.log) :: A) ⟨rfl, rfl, rfl, rfl, rfl, rfl, rfl, rfl, trivial⟩ ?_ fun ρh => ?_
        · -- more.go:22
          refine WC.region <| sv (vfldp fl30f1 rfl) <| sv (vfldp fl28f8 rfl) <| sv (vldc pl22 rfl) <| clx (by repeat' (first | with_reducible exact Sb.all | exact Sb.nil | (apply Sb.cons; focus (first | ((repeat (first | with_reducible exact Tk.here | with_reducible apply Tk.there)); done) | ((repeat (first | exact Tk.here | apply Tk.there)); done))) | apply Sb.drop)) (law_small (l := o.m.cs.xs) (hR := ⟨RdC.old hoo.1⟩) hoo.2.2) ct8 rfl fun r17 hr17 => ?_
          refine svb (vnot rfl) (fun q2 => ?_) (fun q2 => ?_)
          ·
            exact sv (vmB rfl) <| sng rfl <| sng rfl <| sng rfl <| sng rfl <| sv (vpkt rfl) <| WL.nil <| WX.mid () trivial ⟨bT (.inl (by first | (simpa only [Bool.not_eq_true', decide_eq_false_iff_not] using q1) | (simpa only [Bool.not_eq_true', decide_eq_false_iff_not] using q2) | (simpa only [Bool.not_eq_true', decide_eq_false_iff_not] using q3) | (simpa only [Bool.not_eq_true', decide_eq_false_iff_not] using q4))), trivial⟩ ⟨rfl, rfl, rfl, rfl, rfl, rfl, rfl, rfl, trivial⟩ (fun _ h => Sb.own (by repeat' (first | with_reducible exact Sb.all | exact Sb.nil | (apply Sb.cons; focus (first | ((repeat (first | with_reducible exact Tk.here | with_reducible apply Tk.there)); done) | ((repeat (first | exact Tk.here | apply Tk.there)); done))) | apply Sb.drop)) h)
          ·
            exact sv (vmB rfl) <| svg rfl (vfldp fl30f2 rfl) <| svg rfl (vldc pl9 rfl) <| svg rfl (vlens Try.underlying9 rfl) <| svg rfl (vgt rfl rfl) <| sv (vpkf rfl) <| WL.nil <| WX.mid () trivial ⟨bI ⟨fun h => .inr h, fun h => h.resolve_left (fun hh => by first | exact hh (by simpa using q1) | exact hh (by simpa using q2) | exact hh (by simpa using q3))⟩, trivial⟩ ⟨rfl, rfl, rfl, rfl, rfl, rfl, rfl, rfl, trivial⟩ (fun _ h => Sb.own (by repeat' (first | with_reducible exact Sb.all | exact Sb.nil | (apply Sb.cons; focus (first | ((repeat (first | with_reducible exact Tk.here | with_reducible apply Tk.there)); done) | ((repeat (first | exact Tk.here | apply Tk.there)); done))) | apply Sb.drop)) h)
        refine WC.ite rfl (fun h5 => ?_) (fun h5 => ?_)
        · -- then
          exact WC.seq <| WC.region <| sv (vaB rfl) <| WL.nil <| WX.thenN <| WC.ret <| WX.thenR <| WX.blockR <| WX.thenR <| WX.thenR <| WX.blockR <| WX.thenR <| WX.ret1 rfl (()) (trivial) rfl (fun _ h => Sb.own (by repeat' (first | with_reducible exact Sb.all | exact Sb.nil | (apply Sb.cons; focus (first | ((repeat (first | with_reducible exact Tk.here | with_reducible apply Tk.there)); done) | ((repeat (first | exact Tk.here | apply Tk.there)); done))) | apply Sb.drop)) h)
        · -- else
          have hos : (o.m.cs.xs.length : Int) ≤ 20 := (Decidable.not_not.1 fun h => h5 (.inl h)).1
          refine WC.skip <| WX.thenN <| ?_
          refine WC.cutv (ι := Rn) (fun i => []) [(0, .int _ _), (1, .int _ _), (3, .slice _ _ _), (9, .pointer _), (11, _), (12, .int _ _), (13, .int _ _)] (fun i => hnode r5 i :: cel b10 (scells x.term x.vote base x.log c) 24 :: row base c 2 39 (cvs x.log) :: A) (fun i => KJ x i) ⟨rfl, rfl, rfl, rfl, rfl, rfl, rfl, trivial⟩ ?_ ?_
          · -- up to the join
            refine WC.seq <| WC.region <| sv (vfldpz fl30f0 rfl) <| sv (vldc pl3 rfl) <| WL.nil <| WX.thenN <| WC.block <| WC.seq <| WC.region <| sv (veq rfl rfl) <| sv (vaB rfl) <| WL.nil <| WX.thenN <| ?_
            refine WC.ite rfl (fun h6 => ?_) (fun h6 => ?_)
            · -- then
              refine WC.region <| sv (vmP rfl) <| clx (by repeat' (first | with_reducible exact Sb.all | exact Sb.nil | (apply Sb.cons; focus (first | ((repeat (first | with_reducible exact Tk.here | with_reducible apply Tk.there)); done) | ((repeat (first | exact Tk.here | apply Tk.there)); done))) | apply Sb.drop)) (raft_tick hx0 (by omega)) ct15 rfl fun r20 hr20 => ?_
              exact WL.nil <| WX.blockN <| WX.mid ((tickS x).1) (⟨Kp.tick hx0, hx0.tick, Ld.tick hx0 hkr.ld, tick_id x⟩) trivial ⟨rfl, rfl, rfl, rfl, rfl, rfl, rfl, trivial⟩ (fun _ h => Sb.own (by repeat' (first | with_reducible exact Sb.all | exact Sb.nil | (apply Sb.cons; focus (first | ((repeat (first | with_reducible exact Tk.here | with_reducible apply Tk.there)); done) | ((repeat (first | exact Tk.here | apply Tk.there)); done))) | apply Sb.drop)) h)
            · -- else
              refine WC.seq <| WC.region <| sv (veq rfl rfl) <| sv (vaB rfl) <| WL.nil <| WX.thenN <| ?_
              refine WC.ite rfl (fun h7 => ?_) (fun h7 => ?_)
              · -- then
                refine WC.region <| sv (vmP rfl) <| sv (vfldp fl30f1 rfl) <| sv (vldap (cs := mv o.m) ag28 sz28 rfl rfl rfl (by decide)) <| clx (by repeat' (first | with_reducible exact Sb.all | exact Sb.nil | (apply Sb.cons; focus (first | ((repeat (first | with_reducible exact Tk.here | with_reducible apply Tk.there)); done) | ((repeat (first | exact Tk.here | apply Tk.there)); done))) | apply Sb.drop)) (raft_take (m := o.m) hx0 (by omega) hoo.2.1 (hR := ⟨RdC.old hoo.1⟩)) ct17 rfl fun r22 hr22 => ?_
                exact WL.nil <| WX.blockN <| WX.mid ((takeS x o.m.ml).1) (⟨Kp.take hx0, hx0.take, Ld.take hx0 hkr.ld, (Kin.take x _).more⟩) trivial ⟨rfl, rfl, rfl, rfl, rfl, rfl, rfl, trivial⟩ (fun _ h => Sb.own (by repeat' (first | with_reducible exact Sb.all | exact Sb.nil | (apply Sb.cons; focus (first | ((repeat (first | with_reducible exact Tk.here | with_reducible apply Tk.there)); done) | ((repeat (first | exact Tk.here | apply Tk.there)); done))) | apply Sb.drop)) h)
              · -- else
                refine WC.seq <| WC.region <| sv (veq rfl rfl) <| sv (vaB rfl) <| WL.nil <| WX.thenN <| ?_
                refine WC.ite rfl (fun h8 => ?_) (fun h8 => ?_)
                · -- then
                  by_cases hpe : proposeE x o.data = 0
                  · -- ok
                    have hpo := propose_ok hpe
                    refine WC.region <| sv (vmP rfl) <| sv (vfldp fl30f2 rfl) <| sv (vldc pl9 rfl) <| clx (by repeat' (first | with_reducible exact Sb.all | exact Sb.nil | (apply Sb.cons; focus (first | ((repeat (first | with_reducible exact Tk.here | with_reducible apply Tk.there)); done) | ((repeat (first | exact Tk.here | apply Tk.there)); done))) | apply Sb.drop)) (raft_propose hx0 hpe) ct21 rfl fun r24 hr24 => ?_
                    exact WL.nil <| WX.blockN <| WX.mid ((proposeS x o.data).1) (⟨Kp.propose hx0, hx0.propose hpo.2.2.1 hpo.2.2.2 hpo.2.1, hkr.ld, (Kin.propose x _).more⟩) trivial ⟨rfl, rfl, rfl, rfl, rfl, rfl, rfl, trivial⟩ (fun _ h => Sb.own (by repeat' (first | with_reducible exact Sb.all | exact Sb.nil | (apply Sb.cons; focus (first | ((repeat (first | with_reducible exact Tk.here | with_reducible apply Tk.there)); done) | ((repeat (first | exact Tk.here | apply Tk.there)); done))) | apply Sb.drop)) h)
                  · -- er
                    refine WC.region <| sv (vmP rfl) <| sv (vfldp fl30f2 rfl) <| sv (vldc pl9 rfl) <| clx (by repeat' (first | with_reducible exact Sb.all | exact Sb.nil | (apply Sb.cons; focus (first | ((repeat (first | with_reducible exact Tk.here | with_reducible apply Tk.there)); done) | ((repeat (first | exact Tk.here | apply Tk.there)); done))) | apply Sb.drop)) (raft_propose_err hpe) ct21 rfl fun r24 hr24 => ?_
                    exact WL.nil <| WX.blockN <| WX.mid (x) (⟨Kp.refl x, hx0, hkr.ld, (Kin.rfl' (x := x)).more⟩) trivial ⟨rfl, rfl, rfl, rfl, rfl, rfl, rfl, trivial⟩ (fun _ h => Sb.own (by repeat' (first | with_reducible exact Sb.all | exact Sb.nil | (apply Sb.cons; focus (first | ((repeat (first | with_reducible exact Tk.here | with_reducible apply Tk.there)); done) | ((repeat (first | exact Tk.here | apply Tk.there)); done))) | apply Sb.drop)) h)
                · -- else
                  exact WC.skip <| WX.blockN <| WX.mid (x) (⟨Kp.refl x, hx0, hkr.ld, (Kin.rfl' (x := x)).more⟩) trivial ⟨rfl, rfl, rfl, rfl, rfl, rfl, rfl, trivial⟩ (fun _ h => Sb.own (by repeat' (first | with_reducible exact Sb.all | exact Sb.nil | (apply Sb.cons; focus (first | ((repeat (first | with_reducible exact Tk.here | with_reducible apply Tk.there)); done) | ((repeat (first | exact Tk.here | apply Tk.there)); done))) | apply Sb.drop)) h)
          · -- behind the join
            rintro y hkj ρh
            have hy0 : RInv y := hkj.inv
            have hyl := hy0.log
            have hyc := hy0.commit
            have hxl := hx0.log
            have hkt := hkj.kp.term
            have hkc := hkj.kp.commit
            have hkin := hkj.kin
            have htl : (x.log.take x.commit.toNat).length = x.commit.toNat := by rw [List.length_take]; omega
            have htl2 : (y.log.take x.commit.toNat).length = x.commit.toNat := by rw [List.length_take]; omega
            have hrt : ∀ {B : List HProp} {q : Option Addr} {l : List Cl} [Reads w0 B q (cvs l)], RdC w0 B q (cvs (l.take x.commit.toNat)) := fun {B q l} _ => by
              have := (reads (w0 := w0) (A := B) (base := q) (vs := cvs l)).take (x.commit.toNat * 2)
              rwa [cvs_take] at this
            refine WC.seq <| WC.region <| sv (vmP rfl) <| clx (by repeat' (first | with_reducible exact Sb.all | exact Sb.nil | (apply Sb.cons; focus (first | ((repeat (first | with_reducible exact Tk.here | with_reducible apply Tk.there)); done) | ((repeat (first | exact Tk.here | apply Tk.there)); done))) | apply Sb.drop)) (raft_stable hy0) ct23 rfl fun r25 hr25 => ?_
            refine alz (cs := [.int .i64 0, .int .i64 0, .slice none 0 0]) zt24 (by rfl) fun b26 => stAp sz24 rfl rfl rfl (by intro v hv; simp only [List.mem_cons, List.not_mem_nil, or_false] at hv; rcases hv with rfl | rfl | rfl <;> rfl) rfl <| WL.nil <| WX.thenN <| WC.seq <| WC.region <| sv (vmP rfl) <| clx (by repeat' (first | with_reducible exact Sb.all | exact Sb.nil | (apply Sb.cons; focus (first | ((repeat (first | with_reducible exact Tk.here | with_reducible apply Tk.there)); done) | ((repeat (first | exact Tk.here | apply Tk.there)); done))) | apply Sb.drop)) (raft_commit (x := y)) ct24 rfl fun r28 hr28 => ?_
            refine sv (vaI rfl) <| WL.nil <| WX.thenN <| WC.seq <| ?_
            refine WC.cutS [(135, .bool (decide ((y.term = x.term ∧ x.vote ≠ 0) ∧ y.vote ≠ x.vote)))] [(0, .int _ _), (1, .int _ _), (3, .slice _ _ _), (9, .pointer _), (11, _), (12, .int _ _), (13, .int _ _), (15, _), (16, .int _ _)] ⟨rfl, rfl, rfl, rfl, rfl, rfl, rfl, rfl, rfl, trivial⟩ ?_ fun ρh => ?_
            · -- more.go:35
              refine WC.region <| sv (vfldpz fl24f0 rfl) <| sv (vldc pl3 rfl) <| sv (vfldpz fl24f0 rfl) <| sv (vldc pl3 rfl) <| sv (vF (vlt rfl rfl) (by omega)) <| sv (vmB rfl) <| svg rfl (vfldpz fl24f0 rfl) <| svg rfl (vldc pl3 rfl) <| svg rfl (vfldpz fl24f0 rfl) <| svg rfl (vldc pl3 rfl) <| svsg rfl (veq rfl rfl) (fun q3 => ?_) (fun q3 => ?_)
              ·
                refine svg rfl (vmB rfl) <| svg rfl (vfldp fl24f1 rfl) <| svg rfl (vldc pl3 rfl) <| svsg rfl (vne rfl rfl) (fun q4 => ?_) (fun q4 => ?_)
                ·
                  refine svg rfl (vpkt rfl) <| svg rfl (vmB rfl) <| svg rfl (vfldp fl24f1 rfl) <| svg rfl (vldc pl3 rfl) <| svg rfl (vfldp fl24f1 rfl) <| svg rfl (vldc pl3 rfl) <| svsg rfl (vne rfl rfl) (fun q5 => ?_) (fun q5 => ?_)
                  ·
                    exact svg rfl (vpkt rfl) <| sv (vpkf rfl) <| sv (vmB rfl) <| sng rfl <| sng rfl <| sng rfl <| sv (vpkt rfl) <| sv (vmB rfl) <| sng rfl <| sng rfl <| sng rfl <| sng rfl <| sng rfl <| sv (vpkt rfl) <| sv (vmB rfl) <| sng rfl <| sng rfl <| sng rfl <| sng rfl <| sng rfl <| sv (vpkt rfl) <| WL.nil <| WX.mid () trivial ⟨bT (by first | omega | simp_all | grind), trivial⟩ ⟨rfl, rfl, rfl, rfl, rfl, rfl, rfl, rfl, rfl, trivial⟩ (fun _ h => Sb.own (by repeat' (first | with_reducible exact Sb.all | exact Sb.nil | (apply Sb.cons; focus (first | ((repeat (first | with_reducible exact Tk.here | with_reducible apply Tk.there)); done) | ((repeat (first | exact Tk.here | apply Tk.there)); done))) | apply Sb.drop)) h)
                  ·
                    exact svg rfl (vpkt rfl) <| sv (vpkf rfl) <| sv (vmB rfl) <| svg rfl (vmI rfl) <| svg rfl (vmI rfl) <| svg rfl (vF (vlt rfl rfl) (by omega)) <| sv (vpkf rfl) <| sv (vmB rfl) <| svg rfl (vmI rfl) <| svg rfl (vfldp fl24f2 rfl) <| svg rfl (vldc pl22 rfl) <| svg rfl (vlen Try.underlying22 rfl) <| svg rfl (vF (vgt rfl rfl) (by omega)) <| sv (vpkf rfl) <| sv (vmB rfl) <| svg rfl (vmI rfl) <| svg rfl (vfldp fl24f2 rfl) <| svg rfl (vldc pl22 rfl) <| svg rfl (vlen Try.underlying22 rfl) <| svg rfl (vF (vgt rfl rfl) (by omega)) <| sv (vpkf rfl) <| WL.nil <| WX.mid () trivial ⟨bF (by first | omega | simp_all | grind), trivial⟩ ⟨rfl, rfl, rfl, rfl, rfl, rfl, rfl, rfl, rfl, trivial⟩ (fun _ h => Sb.own (by repeat' (first | with_reducible exact Sb.all | exact Sb.nil | (apply Sb.cons; focus (first | ((repeat (first | with_reducible exact Tk.here | with_reducible apply Tk.there)); done) | ((repeat (first | exact Tk.here | apply Tk.there)); done))) | apply Sb.drop)) h)
                ·
                  exact svg rfl (vpkt rfl) <| svg rfl (vmB rfl) <| sng rfl <| sng rfl <| sng rfl <| sng rfl <| sng rfl <| svg rfl (vpkf rfl) <| sv (vpkf rfl) <| sv (vmB rfl) <| svg rfl (vmI rfl) <| svg rfl (vmI rfl) <| svg rfl (vF (vlt rfl rfl) (by omega)) <| sv (vpkf rfl) <| sv (vmB rfl) <| svg rfl (vmI rfl) <| svg rfl (vfldp fl24f2 rfl) <| svg rfl (vldc pl22 rfl) <| svg rfl (vlen Try.underlying22 rfl) <| svg rfl (vF (vgt rfl rfl) (by omega)) <| sv (vpkf rfl) <| sv (vmB rfl) <| svg rfl (vmI rfl) <| svg rfl (vfldp fl24f2 rfl) <| svg rfl (vldc pl22 rfl) <| svg rfl (vlen Try.underlying22 rfl) <| svg rfl (vF (vgt rfl rfl) (by omega)) <| sv (vpkf rfl) <| WL.nil <| WX.mid () trivial ⟨bF (by first | omega | simp_all | grind), trivial⟩ ⟨rfl, rfl, rfl, rfl, rfl, rfl, rfl, rfl, rfl, trivial⟩ (fun _ h => Sb.own (by repeat' (first | with_reducible exact Sb.all | exact Sb.nil | (apply Sb.cons; focus (first | ((repeat (first | with_reducible exact Tk.here | with_reducible apply Tk.there)); done) | ((repeat (first | exact Tk.here | apply Tk.there)); done))) | apply Sb.drop)) h)
              ·
                exact svg rfl (vmB rfl) <| sng rfl <| sng rfl <| sng rfl <| svg rfl (vpkf rfl) <| svg rfl (vmB rfl) <| sng rfl <| sng rfl <| sng rfl <| sng rfl <| sng rfl <| svg rfl (vpkf rfl) <| sv (vpkf rfl) <| sv (vmB rfl) <| svg rfl (vmI rfl) <| svg rfl (vmI rfl) <| svg rfl (vF (vlt rfl rfl) (by omega)) <| sv (vpkf rfl) <| sv (vmB rfl) <| svg rfl (vmI rfl) <| svg rfl (vfldp fl24f2 rfl) <| svg rfl (vldc pl22 rfl) <| svg rfl (vlen Try.underlying22 rfl) <| svg rfl (vF (vgt rfl rfl) (by omega)) <| sv (vpkf rfl) <| sv (vmB rfl) <| svg rfl (vmI rfl) <| svg rfl (vfldp fl24f2 rfl) <| svg rfl (vldc pl22 rfl) <| svg rfl (vlen Try.underlying22 rfl) <| svg rfl (vF (vgt rfl rfl) (by omega)) <| sv (vpkf rfl) <| WL.nil <| WX.mid () trivial ⟨bF (by first | omega | simp_all | grind), trivial⟩ ⟨rfl, rfl, rfl, rfl, rfl, rfl, rfl, rfl, rfl, trivial⟩ (fun _ h => Sb.own (by repeat' (first | with_reducible exact Sb.all | exact Sb.nil | (apply Sb.cons; focus (first | ((repeat (first | with_reducible exact Tk.here | with_reducible apply Tk.there)); done) | ((repeat (first | exact Tk.here | apply Tk.there)); done))) | apply Sb.drop)) h)
            refine WC.ite rfl (fun h9 => ?_) (fun h9 => ?_)
            · -- then
              exact absurd (hkj.kp.vote h9.1.1 h9.1.2) h9.2
            · -- else
              refine WC.skip <| WX.thenN <| WC.seq <| ?_
              refine WC.cutS [(151, .bool false)] [(0, .int _ _), (1, .int _ _), (3, .slice _ _ _), (9, .pointer _), (11, _), (13, .int _ _), (15, _), (16, .int _ _)] ⟨rfl, rfl, rfl, rfl, rfl, rfl, rfl, rfl, trivial⟩ ?_ fun ρh => ?_
              · -- more.go:38
                exact WC.draws rfl (by kernel_rfl) <| qv (vfldp fl24f2 rfl) <| qv (vldc pl22 rfl) <| qv (vmI rfl) <| qv (vw (v' := .slice r25.1 (y.log.take x.commit.toNat).length r25.2) (vslH Try.underlying22 sz39 rfl rfl (by omega) (by omega)) (by rw [htl2])) <| qv (vfldp fl24f2 rfl) <| qv (vldc pl22 rfl) <| qv (vmI rfl) <| qv (vw (v' := .slice base (x.log.take x.commit.toNat).length c) (vslH Try.underlying22 sz39 rfl rfl (by omega) (by omega)) (by rw [htl])) <| qcl (Fun.quiet (ref_samecells_eq (k := y.log.take x.commit.toNat) (l := x.log.take x.commit.toNat) (hR := ⟨hrt⟩) (hS := ⟨hrt⟩) (by omega) hkj.kp.log)) ct19 rfl <| qv (vnot rfl) <| qv (vmB rfl) <| qvg rfl (vmI rfl) <| qvg rfl (vldac ag24 sz24 rfl rfl (by decide)) <| qclg rfl (Fun.quiet (ref_may_yes (l := y.log) (by omega) (by have h := hy0.stable.2.2.2.2; rw [hkin.2.1, hxn] at h; exact h))) ct11 rfl <| qvg rfl (vnot rfl) <| qv (vpkf rfl) <| WQ.nil <| WX.mid () trivial ⟨rfl, trivial⟩ ⟨rfl, rfl, rfl, rfl, rfl, rfl, rfl, rfl, trivial⟩ (fun _ h => Sb.own (by repeat' (first | with_reducible exact Sb.all | exact Sb.nil | (apply Sb.cons; focus (first | ((repeat (first | with_reducible exact Tk.here | with_reducible apply Tk.there)); done) | ((repeat (first | exact Tk.here | apply Tk.there)); done))) | apply Sb.drop)) h)
              refine WC.ff rfl ?_
              refine WC.skip <| WX.thenN <| WC.seq <| WC.seq <| WC.region <| sv (vmP rfl) <| clx (by repeat' (first | with_reducible exact Sb.all | exact Sb.nil | (apply Sb.cons; focus (first | ((repeat (first | with_reducible exact Tk.here | with_reducible apply Tk.there)); done) | ((repeat (first | exact Tk.here | apply Tk.there)); done))) | apply Sb.drop)) (raft_role (x := y)) ct25 rfl fun r45 hr45 => ?_
              refine sv (veq rfl rfl) <| sv (vmP rfl) <| clx (by repeat' (first | with_reducible exact Sb.all | exact Sb.nil | (apply Sb.cons; focus (first | ((repeat (first | with_reducible exact Tk.here | with_reducible apply Tk.there)); done) | ((repeat (first | exact Tk.here | apply Tk.there)); done))) | apply Sb.drop)) (raft_leader (x := y)) ct26 rfl fun r46 hr46 => ?_
              refine sv (vmI rfl) <| sv (veq rfl rfl) <| sv (vneb Try.underlying4 rfl rfl) <| WL.nil <| WX.thenN <| ?_
              refine WC.ite rfl (fun h11 => ?_) (fun h11 => ?_)
              · -- then
                exact absurd (decide_eq_decide.2 (by rw [show id = y.id from (hkin.1.trans hid).symm]; exact hkj.ld)) h11
              · -- else
                exact WC.skip <| WX.thenN <| WC.seq <| WC.region <| sv (vldac ag24 sz24 rfl rfl (by decide)) <| stAp sz24 rfl rfl rfl (by intro v hv; simp only [List.mem_cons, List.not_mem_nil, or_false] at hv; rcases hv with rfl | rfl | rfl <;> rfl) rfl <| WL.nil <| WX.thenN <| WC.region <| sv (vmI rfl) <| sv (vaI rfl) <| WL.nil <| WX.blockN <| WX.thenN <| WC.region <| sv (vmI rfl) <| sv (vadd rfl rfl (by omega)) <| sv (vaI rfl) <| WL.nil <| WX.again (⟨k + 1, y, r25.1, r25.2⟩) (⟨by show k + 1 ≤ ops.length; omega, hy0, hkj.ld, hkin.1.trans hid, hkin.2.1.trans hxn, by show y.waited ≤ ((k + 1 : Nat) : Int); rcases hkin.2.2 with a | a <;> omega, hr25⟩) (by show ops.length - (k + 1) < ops.length - k; omega) ⟨rfl, rfl, trivial⟩ ⟨rfl, rfl, rfl, rfl, rfl, trivial⟩ (fun _ h => Sb.own (by repeat' (first | with_reducible exact Sb.all | exact Sb.nil | (apply Sb.cons; focus (first | ((repeat (first | with_reducible exact Tk.here | with_reducible apply Tk.there)); done) | ((repeat (first | exact Tk.here | apply Tk.there)); done))) | apply Sb.drop)) h)
      · -- else
        refine WC.exit <| WX.thenE <| WX.thenE <| WX.blockH <| WX.thenN <| WC.seq <| WC.region <| clx (by repeat' (first | with_reducible exact Sb.all | exact Sb.nil | (apply Sb.cons; focus (first | ((repeat (first | with_reducible exact Tk.here | with_reducible apply Tk.there)); done) | ((repeat (first | exact Tk.here | apply Tk.there)); done))) | apply Sb.drop)) (law_awake) ct12 rfl fun r50 hr50 => ?_
        exact sv (vaB rfl) <| WL.nil <| WX.thenN <| WC.ret <| WX.ret1 rfl (()) (trivial) rfl (fun _ h => Sb.own (by repeat' (first | with_reducible exact Sb.all | exact Sb.nil | (apply Sb.cons; focus (first | ((repeat (first | with_reducible exact Tk.here | with_reducible apply Tk.there)); done) | ((repeat (first | exact Tk.here | apply Tk.there)); done))) | apply Sb.drop)) h)
end Go.Proofs.Ytekoilhjlofncaa
