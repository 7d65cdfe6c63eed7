/-
  Layer 4: the law about what is put together.
-/
import Derived.Test.YtoeglkkmjmhmiaaDoorExprSigns
set_option linter.unusedVariables false
set_option linter.unusedSimpArgs false
set_option maxRecDepth 4000
namespace Go.Proofs.YtoeglkkmjmhmiaaDoor
open Go.Sl Go.RowKit Go.Expr Go.Shelf

theorem put_txt {S R : ByteArray} {o : Bo} : (ByteArray.mk #[40] ++ S ++ ByteArray.mk #[41] ++ bs o.bytes ++ ByteArray.mk #[40, 32] ++ R ++ ByteArray.mk #[32, 41]).data.toList = putS S.data.toList R.data.toList o := by
  simp [ByteArray.data_append, bs, putS]
theorem ex_parse_any {w0 : World} {A : List HProp} {S : ByteArray} (ht : TabW w0) : Fun Tryd.prog w0 10 [.string S] A (Ret w0 (fun _ : Option Addr × Int × Int => True) (fun i => .tuple #[.pointer i.1, .int .i64 i.2.1, .int .i64 i.2.2]) (fun _ => A)) := by
  cases hR : parseS S.data.toList with
  | error e => exact (ex_parse_bad_of ht hR).mono fun e w ⟨i, _, he, hO⟩ => ⟨(none, _, _), trivial, he, hO⟩
  | ok x => exact (ex_parse_ok_of ht hR).mono fun e w ⟨i, _, he, hO⟩ => ⟨(some ⟨i.1, 0, none⟩, 0, 0), trivial, he, hO.tail.tail⟩
theorem pt_erra {w0 : World} {A : List HProp} {S R : ByteArray} {op n t v : Int} (htb : TabW w0) {k : Nat} {e : Int} (ha : parseS S.data.toList = .error (k, e)) {Rb : Except (Nat × Int) Tr} (hb : parseS R.data.toList = Rb) :
    Fun Tryd.prog w0 6 [.string S, .string R, .int .i64 op, .int .i64 n, .int .i64 t, .int .i64 v] A (Ret w0 (fun _ : Unit => True) (fun _ => .bool true) (fun _ => A)) := by
  have he := er_ne ha
  refine Fun.enter Tryd.func6 rfl Tryd.ntmps6 rfl ?_
  refine WC.seq <| WC.region <| sv (vaB rfl) <| WL.nil <| WX.thenN <| WC.seq <| WC.region <| sv (vmT rfl) <| clx (by repeat' (first | with_reducible exact Sb.all | exact Sb.nil | (apply Sb.cons; focus (first | ((repeat (first | with_reducible exact Tk.here | with_reducible apply Tk.there)); done) | ((repeat (first | exact Tk.here | apply Tk.there)); done))) | apply Sb.drop)) (ex_parse_bad_of htb ha) ct10 rfl fun r1 hr1 => ?_
  refine sv vmv <| sv (vex rfl rfl) <| sv (vex rfl rfl) <| sv (vex rfl rfl) <| sv (vaP rfl) <| sv (vaI rfl) <| sv (vaI rfl) <| WL.nil <| WX.thenN <| WC.seq <| WC.region <| sv (vmT rfl) <| clx (by repeat' (first | with_reducible exact Sb.all | exact Sb.nil | (apply Sb.cons; focus (first | ((repeat (first | with_reducible exact Tk.here | with_reducible apply Tk.there)); done) | ((repeat (first | exact Tk.here | apply Tk.there)); done))) | apply Sb.drop)) (ex_parse_any htb) ct10 rfl fun r2 hr2 => ?_
  refine sv vmv <| sv (vex rfl rfl) <| sv (vex rfl rfl) <| sv (vex rfl rfl) <| sv (vaP rfl) <| sv (vaI rfl) <| sv (vaI rfl) <| WL.nil <| WX.thenN <| WC.seq <| ?_
  refine WC.cutS [(41, .bool true)] [(0, .string _), (1, .string _), (2, .int _ _), (3, .int _ _), (4, .int _ _), (5, .int _ _), (13, .pointer _), (16, .pointer _)] ⟨rfl, rfl, rfl, rfl, rfl, rfl, rfl, rfl, trivial⟩ ?_ fun ρh => ?_
  · -- law.go:62
    exact WC.region <| sv (vmI rfl) <| sv (vT (vne rfl rfl) (by omega)) <| sv (vmB rfl) <| sng rfl <| sng rfl <| sv (vpkt rfl) <| WL.nil <| WX.mid () trivial ⟨rfl, trivial⟩ ⟨rfl, rfl, rfl, rfl, rfl, rfl, rfl, rfl, trivial⟩ (fun _ h => Sb.own (by repeat' (first | with_reducible exact Sb.all | exact Sb.nil | (apply Sb.cons; focus (first | ((repeat (first | with_reducible exact Tk.here | with_reducible apply Tk.there)); done) | ((repeat (first | exact Tk.here | apply Tk.there)); done))) | apply Sb.drop)) h)
  refine WC.iteb rfl (fun h1 => ?_) (fun h1 => ?_)
  · -- then
    refine WC.seq <| WC.region <| clx (by repeat' (first | with_reducible exact Sb.all | exact Sb.nil | (apply Sb.cons; focus (first | ((repeat (first | with_reducible exact Tk.here | with_reducible apply Tk.there)); done) | ((repeat (first | exact Tk.here | apply Tk.there)); done))) | apply Sb.drop)) (law_awake htb) ct12 rfl fun r3 hr3 => ?_
    exact sv (vaB rfl) <| WL.nil <| WX.thenN <| WC.ret <| WX.thenR <| WX.ret1 rfl (()) (trivial) rfl (fun _ h => Sb.own (by repeat' (first | with_reducible exact Sb.all | exact Sb.nil | (apply Sb.cons; focus (first | ((repeat (first | with_reducible exact Tk.here | with_reducible apply Tk.there)); done) | ((repeat (first | exact Tk.here | apply Tk.there)); done))) | apply Sb.drop)) h)
  · -- else
    exact absurd h1 (by decide)
theorem pt_errb {w0 : World} {A : List HProp} {S R : ByteArray} {op n t v : Int} (htb : TabW w0) {x : Tr} {k : Nat} {e : Int} (ha : parseS S.data.toList = .ok x) (hb : parseS R.data.toList = .error (k, e)) :
    Fun Tryd.prog w0 6 [.string S, .string R, .int .i64 op, .int .i64 n, .int .i64 t, .int .i64 v] A (Ret w0 (fun _ : Unit => True) (fun _ => .bool true) (fun _ => A)) := by
  have he := er_ne hb
  refine Fun.enter Tryd.func6 rfl Tryd.ntmps6 rfl ?_
  refine WC.seq <| WC.region <| sv (vaB rfl) <| WL.nil <| WX.thenN <| WC.seq <| WC.region <| sv (vmT rfl) <| clx (by repeat' (first | with_reducible exact Sb.all | exact Sb.nil | (apply Sb.cons; focus (first | ((repeat (first | with_reducible exact Tk.here | with_reducible apply Tk.there)); done) | ((repeat (first | exact Tk.here | apply Tk.there)); done))) | apply Sb.drop)) (ex_parse_ok_of htb ha) ct10 rfl fun r1 hr1 => ?_
  refine sv vmv <| sv (vex rfl rfl) <| sv (vex rfl rfl) <| sv (vex rfl rfl) <| sv (vaP rfl) <| sv (vaI rfl) <| sv (vaI rfl) <| WL.nil <| WX.thenN <| WC.seq <| WC.region <| sv (vmT rfl) <| clx (by repeat' (first | with_reducible exact Sb.all | exact Sb.nil | (apply Sb.cons; focus (first | ((repeat (first | with_reducible exact Tk.here | with_reducible apply Tk.there)); done) | ((repeat (first | exact Tk.here | apply Tk.there)); done))) | apply Sb.drop)) (ex_parse_bad_of htb hb) ct10 rfl fun r2 hr2 => ?_
  refine sv vmv <| sv (vex rfl rfl) <| sv (vex rfl rfl) <| sv (vex rfl rfl) <| sv (vaP rfl) <| sv (vaI rfl) <| sv (vaI rfl) <| WL.nil <| WX.thenN <| WC.seq <| ?_
  refine WC.cutS [(41, .bool true)] [(0, .string _), (1, .string _), (2, .int _ _), (3, .int _ _), (4, .int _ _), (5, .int _ _), (13, .pointer _), (16, .pointer _)] ⟨rfl, rfl, rfl, rfl, rfl, rfl, rfl, rfl, trivial⟩ ?_ fun ρh => ?_
  · -- law.go:62
    exact WC.region <| sv (vmI rfl) <| sv (vF (vne rfl rfl) (by omega)) <| sv (vmB rfl) <| svg rfl (vmI rfl) <| svg rfl (vT (vne rfl rfl) (by omega)) <| sv (vpkf rfl) <| WL.nil <| WX.mid () trivial ⟨rfl, trivial⟩ ⟨rfl, rfl, rfl, rfl, rfl, rfl, rfl, rfl, trivial⟩ (fun _ h => Sb.own (by repeat' (first | with_reducible exact Sb.all | exact Sb.nil | (apply Sb.cons; focus (first | ((repeat (first | with_reducible exact Tk.here | with_reducible apply Tk.there)); done) | ((repeat (first | exact Tk.here | apply Tk.there)); done))) | apply Sb.drop)) h)
  refine WC.iteb rfl (fun h1 => ?_) (fun h1 => ?_)
  · -- then
    refine WC.seq <| WC.region <| clx (by repeat' (first | with_reducible exact Sb.all | exact Sb.nil | (apply Sb.cons; focus (first | ((repeat (first | with_reducible exact Tk.here | with_reducible apply Tk.there)); done) | ((repeat (first | exact Tk.here | apply Tk.there)); done))) | apply Sb.drop)) (law_awake htb) ct12 rfl fun r3 hr3 => ?_
    exact sv (vaB rfl) <| WL.nil <| WX.thenN <| WC.ret <| WX.thenR <| WX.ret1 rfl (()) (trivial) rfl (fun w h => Sb.own (by repeat' (first | with_reducible exact Sb.all | exact Sb.nil | (apply Sb.cons; focus (first | ((repeat (first | with_reducible exact Tk.here | with_reducible apply Tk.there)); done) | ((repeat (first | exact Tk.here | apply Tk.there)); done))) | apply Sb.drop)) h)
  · -- else
    exact absurd h1 (by decide)
theorem pt_long {w0 : World} {A : List HProp} {S R : ByteArray} {op n t v : Int} (htb : TabW w0) (hop : I64 op) {x y : Tr} (ha : parseS S.data.toList = .ok x) (hb : parseS R.data.toList = .ok y) {kc : Nat} (hc : parseS (putS S.data.toList R.data.toList (boAt (ixI op))) = .error (kc, 2)) :
    Fun Tryd.prog w0 6 [.string S, .string R, .int .i64 op, .int .i64 n, .int .i64 t, .int .i64 v] A (Ret w0 (fun _ : Unit => True) (fun _ => .bool true) (fun _ => A)) := by
  obtain ⟨k, hk⟩ : ∃ k, k = ixI op := ⟨_, rfl⟩
  have hk13 : k < 13 := hk ▸ ixI_lt op
  obtain ⟨o, ho⟩ : ∃ o, o = boAt k := ⟨_, rfl⟩
  have hol := bo_len o
  have hSl : S.size ≤ 200 := (parse_ok ha).1
  have hRl : R.size ≤ 200 := (parse_ok hb).1
  rw [← hk, ← ho] at hc
  refine Fun.enter Tryd.func6 rfl Tryd.ntmps6 rfl ?_
  refine WC.seq <| WC.region <| sv (vaB rfl) <| WL.nil <| WX.thenN <| WC.seq <| WC.region <| sv (vmT rfl) <| clx (by repeat' (first | with_reducible exact Sb.all | exact Sb.nil | (apply Sb.cons; focus (first | ((repeat (first | with_reducible exact Tk.here | with_reducible apply Tk.there)); done) | ((repeat (first | exact Tk.here | apply Tk.there)); done))) | apply Sb.drop)) (ex_parse_ok_of htb ha) ct10 rfl fun r1 hr1 => ?_
  refine sv vmv <| sv (vex rfl rfl) <| sv (vex rfl rfl) <| sv (vex rfl rfl) <| sv (vaP rfl) <| sv (vaI rfl) <| sv (vaI rfl) <| WL.nil <| WX.thenN <| WC.seq <| WC.region <| sv (vmT rfl) <| clx (by repeat' (first | with_reducible exact Sb.all | exact Sb.nil | (apply Sb.cons; focus (first | ((repeat (first | with_reducible exact Tk.here | with_reducible apply Tk.there)); done) | ((repeat (first | exact Tk.here | apply Tk.there)); done))) | apply Sb.drop)) (ex_parse_ok_of htb hb) ct10 rfl fun r2 hr2 => ?_
  refine sv vmv <| sv (vex rfl rfl) <| sv (vex rfl rfl) <| sv (vex rfl rfl) <| sv (vaP rfl) <| sv (vaI rfl) <| sv (vaI rfl) <| WL.nil <| WX.thenN <| WC.seq <| ?_
  refine WC.cutS [(41, .bool false)] [(0, .string _), (1, .string _), (2, .int _ _), (3, .int _ _), (4, .int _ _), (5, .int _ _), (13, .pointer _), (16, .pointer _)] ⟨rfl, rfl, rfl, rfl, rfl, rfl, rfl, rfl, trivial⟩ ?_ fun ρh => ?_
  · -- law.go:62
    exact WC.region <| sv (vmI rfl) <| sv (vF (vne rfl rfl) (by omega)) <| sv (vmB rfl) <| svg rfl (vmI rfl) <| svg rfl (vF (vne rfl rfl) (by omega)) <| sv (vpkf rfl) <| WL.nil <| WX.mid () trivial ⟨rfl, trivial⟩ ⟨rfl, rfl, rfl, rfl, rfl, rfl, rfl, rfl, trivial⟩ (fun _ h => Sb.own (by repeat' (first | with_reducible exact Sb.all | exact Sb.nil | (apply Sb.cons; focus (first | ((repeat (first | with_reducible exact Tk.here | with_reducible apply Tk.there)); done) | ((repeat (first | exact Tk.here | apply Tk.there)); done))) | apply Sb.drop)) h)
  refine WC.iteb rfl (fun h1 => ?_) (fun h1 => ?_)
  · -- then
    exact absurd h1 (by decide)
  · -- else
    refine WC.skip <| WX.thenN <| WC.seq <| WC.region <| bsl_core [(.string (ByteArray.mk #[124, 124])), (.string (ByteArray.mk #[38, 38])), (.string (ByteArray.mk #[61, 61])), (.string (ByteArray.mk #[33, 61])), (.string (ByteArray.mk #[60, 61])), (.string (ByteArray.mk #[62, 61])), (.string (ByteArray.mk #[60])), (.string (ByteArray.mk #[62])), (.string (ByteArray.mk #[43])), (.string (ByteArray.mk #[45])), (.string (ByteArray.mk #[42])), (.string (ByteArray.mk #[47])), (.string (ByteArray.mk #[37]))] Tryd.underlying35 zt9 rfl (by simp [enumP, ev]) (by simp [Value.cells]) (by simp) fun b4 => sv (vaS rfl) <| WL.nil <| WX.thenN <| ?_
    refine WC.cutvS (ι := Unit) (fun i => [(2, .int .i64 (nnI op))]) [(0, .string _), (1, .string _), (3, .int _ _), (4, .int _ _), (5, .int _ _), (13, .pointer _), (16, .pointer _), (19, .slice _ _ _)] (fun i => True) ⟨rfl, rfl, rfl, rfl, rfl, rfl, rfl, rfl, trivial⟩ ?_ ?_
    · -- up to the join
      refine WC.seq <| WC.region <| sv (vmI rfl) <| sv (vlt rfl rfl) <| WL.nil <| WX.thenN <| ?_
      refine WC.ite rfl (fun h2 => ?_) (fun h2 => ?_)
      · -- then
        exact WC.region <| sv (vmI rfl) <| sv (vadd rfl rfl (by omega)) <| sv (vneg rfl) <| sv (vaI rfl) <| WL.nil <| WX.mid (()) (trivial) ⟨iv (wrap_neg hop h2), trivial⟩ ⟨rfl, rfl, rfl, rfl, rfl, rfl, rfl, rfl, trivial⟩ (fun _ h => Sb.own (by repeat' (first | with_reducible exact Sb.all | exact Sb.nil | (apply Sb.cons; focus (first | ((repeat (first | with_reducible exact Tk.here | with_reducible apply Tk.there)); done) | ((repeat (first | exact Tk.here | apply Tk.there)); done))) | apply Sb.drop)) h)
      · -- else
        exact WC.skip <| WX.mid (()) (trivial) ⟨iv (by unfold nnI; rw [if_neg h2]), trivial⟩ ⟨rfl, rfl, rfl, rfl, rfl, rfl, rfl, rfl, trivial⟩ (fun _ h => Sb.own (by repeat' (first | with_reducible exact Sb.all | exact Sb.nil | (apply Sb.cons; focus (first | ((repeat (first | with_reducible exact Tk.here | with_reducible apply Tk.there)); done) | ((repeat (first | exact Tk.here | apply Tk.there)); done))) | apply Sb.drop)) h)
    · -- behind the join
      intro _ _ ρh
      refine WC.seq <| WC.region <| sv (vmS rfl) <| sv (vmI rfl) <| sv (vmS rfl) <| sv (vlen Tryd.underlying35 rfl) <| sv (vw (v' := .int .i64 (k : Nat)) (vrem rfl rfl (by decide)) (by rw [hk]; exact congrArg _ (ixI_rem op))) <| sv (vix1 Tryd.underlying35 sz9 rfl rfl (by omega) (by show (k : Int) < 13; omega) reads (by decide)) <| sv (vldo (base := some ⟨b4, 0, none⟩) (j := k) (v := .string (bs o.bytes)) pl9 rfl reads (by rw [ho]; exact opsV_at hk13)) <| sv (vaT rfl) <| WL.nil <| WX.thenN <| WC.seq <| WC.region <| sv (vmT rfl) <| sv (vcat rfl rfl (by simp only [ByteArray.size_append, bs_size, mk1_size, mk2_size]; omega)) <| sv (vcat rfl rfl (by simp only [ByteArray.size_append, bs_size, mk1_size, mk2_size]; omega)) <| sv (vmT rfl) <| sv (vcat rfl rfl (by simp only [ByteArray.size_append, bs_size, mk1_size, mk2_size]; omega)) <| sv (vcat rfl rfl (by simp only [ByteArray.size_append, bs_size, mk1_size, mk2_size]; omega)) <| sv (vmT rfl) <| sv (vcat rfl rfl (by simp only [ByteArray.size_append, bs_size, mk1_size, mk2_size]; omega)) <| sv (vcat rfl rfl (by simp only [ByteArray.size_append, bs_size, mk1_size, mk2_size]; omega)) <| clx (by repeat' (first | with_reducible exact Sb.all | exact Sb.nil | (apply Sb.cons; focus (first | ((repeat (first | with_reducible exact Tk.here | with_reducible apply Tk.there)); done) | ((repeat (first | exact Tk.here | apply Tk.there)); done))) | apply Sb.drop)) (ex_parse_bad_of htb (by rw [put_txt]; exact hc)) ct10 rfl fun r15 hr15 => ?_
      refine sv vmv <| sv (vex rfl rfl) <| sv (vex rfl rfl) <| sv (vex rfl rfl) <| sv (vaP rfl) <| sv (vaI rfl) <| sv (vaI rfl) <| WL.nil <| WX.thenN <| WC.seq <| ?_
      refine WC.cutS [(75, .bool false)] [(3, .int _ _), (4, .int _ _), (5, .int _ _), (13, .pointer _), (16, .pointer _), (20, .string _), (21, .pointer _), (23, .int _ _)] ⟨rfl, rfl, rfl, rfl, rfl, rfl, rfl, rfl, trivial⟩ ?_ fun ρh => ?_
      · -- law.go:71
        exact WC.region <| sv (vmP rfl) <| sv (vpeqF Tryd.underlying22 rfl rfl) <| sv (vmB rfl) <| svg rfl (vmP rfl) <| svg rfl (vpeqF Tryd.underlying22 rfl rfl) <| sv (vpkf rfl) <| WL.nil <| WX.mid () trivial ⟨rfl, trivial⟩ ⟨rfl, rfl, rfl, rfl, rfl, rfl, rfl, rfl, trivial⟩ (fun _ h => Sb.own (by repeat' (first | with_reducible exact Sb.all | exact Sb.nil | (apply Sb.cons; focus (first | ((repeat (first | with_reducible exact Tk.here | with_reducible apply Tk.there)); done) | ((repeat (first | exact Tk.here | apply Tk.there)); done))) | apply Sb.drop)) h)
      refine WC.iteb rfl (fun h3 => ?_) (fun h3 => ?_)
      · -- then
        exact absurd h3 (by decide)
      · -- else
        refine WC.skip <| WX.thenN <| WC.seq <| WC.seq <| WC.region <| sv (vmI rfl) <| sv (vne rfl rfl) <| WL.nil <| WX.thenN <| ?_
        refine WC.ite rfl (fun h4 => ?_) (fun h4 => ?_)
        · -- then
          refine WC.cutS [(12, .bool true)] [] trivial ?_ fun ρh => ?_
          · -- law.go:75
            refine WC.region <| clx (by repeat' (first | with_reducible exact Sb.all | exact Sb.nil | (apply Sb.cons; focus (first | ((repeat (first | with_reducible exact Tk.here | with_reducible apply Tk.there)); done) | ((repeat (first | exact Tk.here | apply Tk.there)); done))) | apply Sb.drop)) (law_awake htb) ct12 rfl fun r18 hr18 => ?_
            exact sv (vmB rfl) <| svg rfl (vmI rfl) <| svg rfl (vT (veq rfl rfl) (by omega)) <| svg rfl (vmB rfl) <| sng rfl <| sng rfl <| svg rfl (vpkt rfl) <| sv (vpkt rfl) <| sv (vaB rfl) <| WL.nil <| WX.mid () trivial ⟨rfl, trivial⟩ trivial (fun _ h => Sb.own (by repeat' (first | with_reducible exact Sb.all | exact Sb.nil | (apply Sb.cons; focus (first | ((repeat (first | with_reducible exact Tk.here | with_reducible apply Tk.there)); done) | ((repeat (first | exact Tk.here | apply Tk.there)); done))) | apply Sb.drop)) h)
          exact WC.ret <| WX.thenR <| WX.ret1 rfl (()) (trivial) rfl (fun w h => Sb.own (by repeat' (first | with_reducible exact Sb.all | exact Sb.nil | (apply Sb.cons; focus (first | ((repeat (first | with_reducible exact Tk.here | with_reducible apply Tk.there)); done) | ((repeat (first | exact Tk.here | apply Tk.there)); done))) | apply Sb.drop)) h)
        · -- else
          exact absurd h4 (by decide)
theorem pt_many {w0 : World} {A : List HProp} {S R : ByteArray} {op n t v : Int} (htb : TabW w0) (hop : I64 op) {x y : Tr} (ha : parseS S.data.toList = .ok x) (hb : parseS R.data.toList = .ok y) {kc : Nat} (hc : parseS (putS S.data.toList R.data.toList (boAt (ixI op))) = .error (kc, 5)) :
    Fun Tryd.prog w0 6 [.string S, .string R, .int .i64 op, .int .i64 n, .int .i64 t, .int .i64 v] A (Ret w0 (fun _ : Unit => True) (fun _ => .bool true) (fun _ => A)) := by
  obtain ⟨k, hk⟩ : ∃ k, k = ixI op := ⟨_, rfl⟩
  have hk13 : k < 13 := hk ▸ ixI_lt op
  obtain ⟨o, ho⟩ : ∃ o, o = boAt k := ⟨_, rfl⟩
  have hol := bo_len o
  have hSl : S.size ≤ 200 := (parse_ok ha).1
  have hRl : R.size ≤ 200 := (parse_ok hb).1
  rw [← hk, ← ho] at hc
  refine Fun.enter Tryd.func6 rfl Tryd.ntmps6 rfl ?_
  refine WC.seq <| WC.region <| sv (vaB rfl) <| WL.nil <| WX.thenN <| WC.seq <| WC.region <| sv (vmT rfl) <| clx (by repeat' (first | with_reducible exact Sb.all | exact Sb.nil | (apply Sb.cons; focus (first | ((repeat (first | with_reducible exact Tk.here | with_reducible apply Tk.there)); done) | ((repeat (first | exact Tk.here | apply Tk.there)); done))) | apply Sb.drop)) (ex_parse_ok_of htb ha) ct10 rfl fun r1 hr1 => ?_
  refine sv vmv <| sv (vex rfl rfl) <| sv (vex rfl rfl) <| sv (vex rfl rfl) <| sv (vaP rfl) <| sv (vaI rfl) <| sv (vaI rfl) <| WL.nil <| WX.thenN <| WC.seq <| WC.region <| sv (vmT rfl) <| clx (by repeat' (first | with_reducible exact Sb.all | exact Sb.nil | (apply Sb.cons; focus (first | ((repeat (first | with_reducible exact Tk.here | with_reducible apply Tk.there)); done) | ((repeat (first | exact Tk.here | apply Tk.there)); done))) | apply Sb.drop)) (ex_parse_ok_of htb hb) ct10 rfl fun r2 hr2 => ?_
  refine sv vmv <| sv (vex rfl rfl) <| sv (vex rfl rfl) <| sv (vex rfl rfl) <| sv (vaP rfl) <| sv (vaI rfl) <| sv (vaI rfl) <| WL.nil <| WX.thenN <| WC.seq <| ?_
  refine WC.cutS [(41, .bool false)] [(0, .string _), (1, .string _), (2, .int _ _), (3, .int _ _), (4, .int _ _), (5, .int _ _), (13, .pointer _), (16, .pointer _)] ⟨rfl, rfl, rfl, rfl, rfl, rfl, rfl, rfl, trivial⟩ ?_ fun ρh => ?_
  · -- law.go:62
    exact WC.region <| sv (vmI rfl) <| sv (vF (vne rfl rfl) (by omega)) <| sv (vmB rfl) <| svg rfl (vmI rfl) <| svg rfl (vF (vne rfl rfl) (by omega)) <| sv (vpkf rfl) <| WL.nil <| WX.mid () trivial ⟨rfl, trivial⟩ ⟨rfl, rfl, rfl, rfl, rfl, rfl, rfl, rfl, trivial⟩ (fun _ h => Sb.own (by repeat' (first | with_reducible exact Sb.all | exact Sb.nil | (apply Sb.cons; focus (first | ((repeat (first | with_reducible exact Tk.here | with_reducible apply Tk.there)); done) | ((repeat (first | exact Tk.here | apply Tk.there)); done))) | apply Sb.drop)) h)
  refine WC.iteb rfl (fun h1 => ?_) (fun h1 => ?_)
  · -- then
    exact absurd h1 (by decide)
  · -- else
    refine WC.skip <| WX.thenN <| WC.seq <| WC.region <| bsl_core [(.string (ByteArray.mk #[124, 124])), (.string (ByteArray.mk #[38, 38])), (.string (ByteArray.mk #[61, 61])), (.string (ByteArray.mk #[33, 61])), (.string (ByteArray.mk #[60, 61])), (.string (ByteArray.mk #[62, 61])), (.string (ByteArray.mk #[60])), (.string (ByteArray.mk #[62])), (.string (ByteArray.mk #[43])), (.string (ByteArray.mk #[45])), (.string (ByteArray.mk #[42])), (.string (ByteArray.mk #[47])), (.string (ByteArray.mk #[37]))] Tryd.underlying35 zt9 rfl (by simp [enumP, ev]) (by simp [Value.cells]) (by simp) fun b4 => sv (vaS rfl) <| WL.nil <| WX.thenN <| ?_
    refine WC.cutvS (ι := Unit) (fun i => [(2, .int .i64 (nnI op))]) [(0, .string _), (1, .string _), (3, .int _ _), (4, .int _ _), (5, .int _ _), (13, .pointer _), (16, .pointer _), (19, .slice _ _ _)] (fun i => True) ⟨rfl, rfl, rfl, rfl, rfl, rfl, rfl, rfl, trivial⟩ ?_ ?_
    · -- up to the join
      refine WC.seq <| WC.region <| sv (vmI rfl) <| sv (vlt rfl rfl) <| WL.nil <| WX.thenN <| ?_
      refine WC.ite rfl (fun h2 => ?_) (fun h2 => ?_)
      · -- then
        exact WC.region <| sv (vmI rfl) <| sv (vadd rfl rfl (by omega)) <| sv (vneg rfl) <| sv (vaI rfl) <| WL.nil <| WX.mid (()) (trivial) ⟨iv (wrap_neg hop h2), trivial⟩ ⟨rfl, rfl, rfl, rfl, rfl, rfl, rfl, rfl, trivial⟩ (fun _ h => Sb.own (by repeat' (first | with_reducible exact Sb.all | exact Sb.nil | (apply Sb.cons; focus (first | ((repeat (first | with_reducible exact Tk.here | with_reducible apply Tk.there)); done) | ((repeat (first | exact Tk.here | apply Tk.there)); done))) | apply Sb.drop)) h)
      · -- else
        exact WC.skip <| WX.mid (()) (trivial) ⟨iv (by unfold nnI; rw [if_neg h2]), trivial⟩ ⟨rfl, rfl, rfl, rfl, rfl, rfl, rfl, rfl, trivial⟩ (fun _ h => Sb.own (by repeat' (first | with_reducible exact Sb.all | exact Sb.nil | (apply Sb.cons; focus (first | ((repeat (first | with_reducible exact Tk.here | with_reducible apply Tk.there)); done) | ((repeat (first | exact Tk.here | apply Tk.there)); done))) | apply Sb.drop)) h)
    · -- behind the join
      intro _ _ ρh
      refine WC.seq <| WC.region <| sv (vmS rfl) <| sv (vmI rfl) <| sv (vmS rfl) <| sv (vlen Tryd.underlying35 rfl) <| sv (vw (v' := .int .i64 (k : Nat)) (vrem rfl rfl (by decide)) (by rw [hk]; exact congrArg _ (ixI_rem op))) <| sv (vix1 Tryd.underlying35 sz9 rfl rfl (by omega) (by show (k : Int) < 13; omega) reads (by decide)) <| sv (vldo (base := some ⟨b4, 0, none⟩) (j := k) (v := .string (bs o.bytes)) pl9 rfl reads (by rw [ho]; exact opsV_at hk13)) <| sv (vaT rfl) <| WL.nil <| WX.thenN <| WC.seq <| WC.region <| sv (vmT rfl) <| sv (vcat rfl rfl (by simp only [ByteArray.size_append, bs_size, mk1_size, mk2_size]; omega)) <| sv (vcat rfl rfl (by simp only [ByteArray.size_append, bs_size, mk1_size, mk2_size]; omega)) <| sv (vmT rfl) <| sv (vcat rfl rfl (by simp only [ByteArray.size_append, bs_size, mk1_size, mk2_size]; omega)) <| sv (vcat rfl rfl (by simp only [ByteArray.size_append, bs_size, mk1_size, mk2_size]; omega)) <| sv (vmT rfl) <| sv (vcat rfl rfl (by simp only [ByteArray.size_append, bs_size, mk1_size, mk2_size]; omega)) <| sv (vcat rfl rfl (by simp only [ByteArray.size_append, bs_size, mk1_size, mk2_size]; omega)) <| clx (by repeat' (first | with_reducible exact Sb.all | exact Sb.nil | (apply Sb.cons; focus (first | ((repeat (first | with_reducible exact Tk.here | with_reducible apply Tk.there)); done) | ((repeat (first | exact Tk.here | apply Tk.there)); done))) | apply Sb.drop)) (ex_parse_bad_of htb (by rw [put_txt]; exact hc)) ct10 rfl fun r15 hr15 => ?_
      refine sv vmv <| sv (vex rfl rfl) <| sv (vex rfl rfl) <| sv (vex rfl rfl) <| sv (vaP rfl) <| sv (vaI rfl) <| sv (vaI rfl) <| WL.nil <| WX.thenN <| WC.seq <| ?_
      refine WC.cutS [(75, .bool false)] [(3, .int _ _), (4, .int _ _), (5, .int _ _), (13, .pointer _), (16, .pointer _), (20, .string _), (21, .pointer _), (23, .int _ _)] ⟨rfl, rfl, rfl, rfl, rfl, rfl, rfl, rfl, trivial⟩ ?_ fun ρh => ?_
      · -- law.go:71
        exact WC.region <| sv (vmP rfl) <| sv (vpeqF Tryd.underlying22 rfl rfl) <| sv (vmB rfl) <| svg rfl (vmP rfl) <| svg rfl (vpeqF Tryd.underlying22 rfl rfl) <| sv (vpkf rfl) <| WL.nil <| WX.mid () trivial ⟨rfl, trivial⟩ ⟨rfl, rfl, rfl, rfl, rfl, rfl, rfl, rfl, trivial⟩ (fun _ h => Sb.own (by repeat' (first | with_reducible exact Sb.all | exact Sb.nil | (apply Sb.cons; focus (first | ((repeat (first | with_reducible exact Tk.here | with_reducible apply Tk.there)); done) | ((repeat (first | exact Tk.here | apply Tk.there)); done))) | apply Sb.drop)) h)
      refine WC.iteb rfl (fun h3 => ?_) (fun h3 => ?_)
      · -- then
        exact absurd h3 (by decide)
      · -- else
        refine WC.skip <| WX.thenN <| WC.seq <| WC.seq <| WC.region <| sv (vmI rfl) <| sv (vne rfl rfl) <| WL.nil <| WX.thenN <| ?_
        refine WC.ite rfl (fun h4 => ?_) (fun h4 => ?_)
        · -- then
          refine WC.cutS [(12, .bool true)] [] trivial ?_ fun ρh => ?_
          · -- law.go:75
            refine WC.region <| clx (by repeat' (first | with_reducible exact Sb.all | exact Sb.nil | (apply Sb.cons; focus (first | ((repeat (first | with_reducible exact Tk.here | with_reducible apply Tk.there)); done) | ((repeat (first | exact Tk.here | apply Tk.there)); done))) | apply Sb.drop)) (law_awake htb) ct12 rfl fun r18 hr18 => ?_
            exact sv (vmB rfl) <| svg rfl (vmI rfl) <| svg rfl (vF (veq rfl rfl) (by omega)) <| svg rfl (vmB rfl) <| svg rfl (vmI rfl) <| svg rfl (vT (veq rfl rfl) (by omega)) <| svg rfl (vpkf rfl) <| sv (vpkt rfl) <| sv (vaB rfl) <| WL.nil <| WX.mid () trivial ⟨rfl, trivial⟩ trivial (fun _ h => Sb.own (by repeat' (first | with_reducible exact Sb.all | exact Sb.nil | (apply Sb.cons; focus (first | ((repeat (first | with_reducible exact Tk.here | with_reducible apply Tk.there)); done) | ((repeat (first | exact Tk.here | apply Tk.there)); done))) | apply Sb.drop)) h)
          exact WC.ret <| WX.thenR <| WX.ret1 rfl (()) (trivial) rfl (fun w h => Sb.own (by repeat' (first | with_reducible exact Sb.all | exact Sb.nil | (apply Sb.cons; focus (first | ((repeat (first | with_reducible exact Tk.here | with_reducible apply Tk.there)); done) | ((repeat (first | exact Tk.here | apply Tk.there)); done))) | apply Sb.drop)) h)
        · -- else
          exact absurd h4 (by decide)
theorem pt_ok {w0 : World} {A : List HProp} {S R : ByteArray} {op n t v : Int} (htb : TabW w0) (hop : I64 op) {x y : Tr} (ha : parseS S.data.toList = .ok x) (hb : parseS R.data.toList = .ok y) (hn : I64 n) (ht : I64 t) (hv : I64 v) (hsx : Sm x) (hsy : Sm y) (hzx : Expr.sizeT x ≤ 64) (hzy : Expr.sizeT y ≤ 64) (hc : parseS (putS S.data.toList R.data.toList (boAt (ixI op))) = .ok (.bn (boAt (ixI op)) x y)) :
    Fun Tryd.prog w0 6 [.string S, .string R, .int .i64 op, .int .i64 n, .int .i64 t, .int .i64 v] A (Ret w0 (fun _ : Unit => True) (fun _ => .bool true) (fun _ => A)) := by
  obtain ⟨k, hk⟩ : ∃ k, k = ixI op := ⟨_, rfl⟩
  have hk13 : k < 13 := hk ▸ ixI_lt op
  obtain ⟨o, ho⟩ : ∃ o, o = boAt k := ⟨_, rfl⟩
  have hol := bo_len o
  have hSl : S.size ≤ 200 := (parse_ok ha).1
  have hRl : R.size ≤ 200 := (parse_ok hb).1
  rw [← hk, ← ho] at hc
  have htx := txt_len hsx
  have hty := txt_len hsy
  refine Fun.enter Tryd.func6 rfl Tryd.ntmps6 rfl ?_
  refine WC.seq <| WC.region <| sv (vaB rfl) <| WL.nil <| WX.thenN <| WC.seq <| WC.region <| sv (vmT rfl) <| clx (by repeat' (first | with_reducible exact Sb.all | exact Sb.nil | (apply Sb.cons; focus (first | ((repeat (first | with_reducible exact Tk.here | with_reducible apply Tk.there)); done) | ((repeat (first | exact Tk.here | apply Tk.there)); done))) | apply Sb.drop)) (ex_parse_ok_of htb ha) ct10 rfl fun r1 hr1 => ?_
  refine sv vmv <| sv (vex rfl rfl) <| sv (vex rfl rfl) <| sv (vex rfl rfl) <| sv (vaP rfl) <| sv (vaI rfl) <| sv (vaI rfl) <| WL.nil <| WX.thenN <| WC.seq <| WC.region <| sv (vmT rfl) <| clx (by repeat' (first | with_reducible exact Sb.all | exact Sb.nil | (apply Sb.cons; focus (first | ((repeat (first | with_reducible exact Tk.here | with_reducible apply Tk.there)); done) | ((repeat (first | exact Tk.here | apply Tk.there)); done))) | apply Sb.drop)) (ex_parse_ok_of htb hb) ct10 rfl fun r2 hr2 => ?_
  refine sv vmv <| sv (vex rfl rfl) <| sv (vex rfl rfl) <| sv (vex rfl rfl) <| sv (vaP rfl) <| sv (vaI rfl) <| sv (vaI rfl) <| WL.nil <| WX.thenN <| WC.seq <| ?_
  refine WC.cutS [(41, .bool false)] [(0, .string _), (1, .string _), (2, .int _ _), (3, .int _ _), (4, .int _ _), (5, .int _ _), (13, .pointer _), (16, .pointer _)] ⟨rfl, rfl, rfl, rfl, rfl, rfl, rfl, rfl, trivial⟩ ?_ fun ρh => ?_
  · -- law.go:62
    exact WC.region <| sv (vmI rfl) <| sv (vF (vne rfl rfl) (by omega)) <| sv (vmB rfl) <| svg rfl (vmI rfl) <| svg rfl (vF (vne rfl rfl) (by omega)) <| sv (vpkf rfl) <| WL.nil <| WX.mid () trivial ⟨rfl, trivial⟩ ⟨rfl, rfl, rfl, rfl, rfl, rfl, rfl, rfl, trivial⟩ (fun _ h => Sb.own (by repeat' (first | with_reducible exact Sb.all | exact Sb.nil | (apply Sb.cons; focus (first | ((repeat (first | with_reducible exact Tk.here | with_reducible apply Tk.there)); done) | ((repeat (first | exact Tk.here | apply Tk.there)); done))) | apply Sb.drop)) h)
  refine WC.iteb rfl (fun h1 => ?_) (fun h1 => ?_)
  · -- then
    exact absurd h1 (by decide)
  · -- else
    refine WC.skip <| WX.thenN <| WC.seq <| WC.region <| bsl_core [(.string (ByteArray.mk #[124, 124])), (.string (ByteArray.mk #[38, 38])), (.string (ByteArray.mk #[61, 61])), (.string (ByteArray.mk #[33, 61])), (.string (ByteArray.mk #[60, 61])), (.string (ByteArray.mk #[62, 61])), (.string (ByteArray.mk #[60])), (.string (ByteArray.mk #[62])), (.string (ByteArray.mk #[43])), (.string (ByteArray.mk #[45])), (.string (ByteArray.mk #[42])), (.string (ByteArray.mk #[47])), (.string (ByteArray.mk #[37]))] Tryd.underlying35 zt9 rfl (by simp [enumP, ev]) (by simp [Value.cells]) (by simp) fun b4 => sv (vaS rfl) <| WL.nil <| WX.thenN <| ?_
    refine WC.cutvS (ι := Unit) (fun i => [(2, .int .i64 (nnI op))]) [(0, .string _), (1, .string _), (3, .int _ _), (4, .int _ _), (5, .int _ _), (13, .pointer _), (16, .pointer _), (19, .slice _ _ _)] (fun i => True) ⟨rfl, rfl, rfl, rfl, rfl, rfl, rfl, rfl, trivial⟩ ?_ ?_
    · -- up to the join
      refine WC.seq <| WC.region <| sv (vmI rfl) <| sv (vlt rfl rfl) <| WL.nil <| WX.thenN <| ?_
      refine WC.ite rfl (fun h2 => ?_) (fun h2 => ?_)
      · -- then
        exact WC.region <| sv (vmI rfl) <| sv (vadd rfl rfl (by omega)) <| sv (vneg rfl) <| sv (vaI rfl) <| WL.nil <| WX.mid (()) (trivial) ⟨iv (wrap_neg hop h2), trivial⟩ ⟨rfl, rfl, rfl, rfl, rfl, rfl, rfl, rfl, trivial⟩ (fun _ h => Sb.own (by repeat' (first | with_reducible exact Sb.all | exact Sb.nil | (apply Sb.cons; focus (first | ((repeat (first | with_reducible exact Tk.here | with_reducible apply Tk.there)); done) | ((repeat (first | exact Tk.here | apply Tk.there)); done))) | apply Sb.drop)) h)
      · -- else
        exact WC.skip <| WX.mid (()) (trivial) ⟨iv (by unfold nnI; rw [if_neg h2]), trivial⟩ ⟨rfl, rfl, rfl, rfl, rfl, rfl, rfl, rfl, trivial⟩ (fun _ h => Sb.own (by repeat' (first | with_reducible exact Sb.all | exact Sb.nil | (apply Sb.cons; focus (first | ((repeat (first | with_reducible exact Tk.here | with_reducible apply Tk.there)); done) | ((repeat (first | exact Tk.here | apply Tk.there)); done))) | apply Sb.drop)) h)
    · -- behind the join
      intro _ _ ρh
      refine WC.seq <| WC.region <| sv (vmS rfl) <| sv (vmI rfl) <| sv (vmS rfl) <| sv (vlen Tryd.underlying35 rfl) <| sv (vw (v' := .int .i64 (k : Nat)) (vrem rfl rfl (by decide)) (by rw [hk]; exact congrArg _ (ixI_rem op))) <| sv (vix1 Tryd.underlying35 sz9 rfl rfl (by omega) (by show (k : Int) < 13; omega) reads (by decide)) <| sv (vldo (base := some ⟨b4, 0, none⟩) (j := k) (v := .string (bs o.bytes)) pl9 rfl reads (by rw [ho]; exact opsV_at hk13)) <| sv (vaT rfl) <| WL.nil <| WX.thenN <| WC.seq <| WC.region <| sv (vmT rfl) <| sv (vcat rfl rfl (by simp only [ByteArray.size_append, bs_size, mk1_size, mk2_size]; omega)) <| sv (vcat rfl rfl (by simp only [ByteArray.size_append, bs_size, mk1_size, mk2_size]; omega)) <| sv (vmT rfl) <| sv (vcat rfl rfl (by simp only [ByteArray.size_append, bs_size, mk1_size, mk2_size]; omega)) <| sv (vcat rfl rfl (by simp only [ByteArray.size_append, bs_size, mk1_size, mk2_size]; omega)) <| sv (vmT rfl) <| sv (vcat rfl rfl (by simp only [ByteArray.size_append, bs_size, mk1_size, mk2_size]; omega)) <| sv (vcat rfl rfl (by simp only [ByteArray.size_append, bs_size, mk1_size, mk2_size]; omega)) <| clx (by repeat' (first | with_reducible exact Sb.all | exact Sb.nil | (apply Sb.cons; focus (first | ((repeat (first | with_reducible exact Tk.here | with_reducible apply Tk.there)); done) | ((repeat (first | exact Tk.here | apply Tk.there)); done))) | apply Sb.drop)) (ex_parse_ok_of htb (by rw [put_txt]; exact hc)) ct10 rfl fun r15 hr15 => ?_
      refine sv vmv <| sv (vex rfl rfl) <| sv (vex rfl rfl) <| sv (vex rfl rfl) <| sv (vaP rfl) <| sv (vaI rfl) <| sv (vaI rfl) <| WL.nil <| WX.thenN <| WC.seq <| ?_
      refine WC.cutS [(75, .bool false)] [(3, .int _ _), (4, .int _ _), (5, .int _ _), (13, .pointer _), (16, .pointer _), (20, .string _), (21, .pointer _), (23, .int _ _)] ⟨rfl, rfl, rfl, rfl, rfl, rfl, rfl, rfl, trivial⟩ ?_ fun ρh => ?_
      · -- law.go:71
        exact WC.region <| sv (vmP rfl) <| sv (vpeqF Tryd.underlying22 rfl rfl) <| sv (vmB rfl) <| svg rfl (vmP rfl) <| svg rfl (vpeqF Tryd.underlying22 rfl rfl) <| sv (vpkf rfl) <| WL.nil <| WX.mid () trivial ⟨rfl, trivial⟩ ⟨rfl, rfl, rfl, rfl, rfl, rfl, rfl, rfl, trivial⟩ (fun _ h => Sb.own (by repeat' (first | with_reducible exact Sb.all | exact Sb.nil | (apply Sb.cons; focus (first | ((repeat (first | with_reducible exact Tk.here | with_reducible apply Tk.there)); done) | ((repeat (first | exact Tk.here | apply Tk.there)); done))) | apply Sb.drop)) h)
      refine WC.iteb rfl (fun h3 => ?_) (fun h3 => ?_)
      · -- then
        exact absurd h3 (by decide)
      · -- else
        refine WC.skip <| WX.thenN <| WC.seq <| WC.seq <| WC.region <| sv (vmI rfl) <| sv (vne rfl rfl) <| WL.nil <| WX.thenN <| ?_
        refine WC.ite rfl (fun h4 => ?_) (fun h4 => ?_)
        · -- then
          exact absurd rfl h4
        · -- else
          refine WC.skip <| WX.thenN <| ?_
          refine WC.cutS [(12, .bool true)] [] trivial ?_ fun ρh => ?_
          · -- law.go:77
            refine WC.region <| clx (by repeat' (first | with_reducible exact Sb.all | exact Sb.nil | (apply Sb.cons; focus (first | ((repeat (first | with_reducible exact Tk.here | with_reducible apply Tk.there)); done) | ((repeat (first | exact Tk.here | apply Tk.there)); done))) | apply Sb.drop)) (law_awake htb) ct12 rfl fun r19 hr19 => ?_
            refine sv (vmB rfl) <| svg rfl (vmP rfl) <| svg rfl (vpneT Tryd.underlying22 rfl rfl) <| sv (vpkt rfl) <| sv (vmB rfl) <| svg rfl (vmP rfl) <| svg rfl (vmI rfl) <| svg rfl (vmI rfl) <| svg rfl (vmI rfl) <| gy rfl <| clx (by repeat' (first | with_reducible exact Sb.all | exact Sb.nil | (apply Sb.cons; focus (first | ((repeat (first | with_reducible exact Tk.here | with_reducible apply Tk.there)); done) | ((repeat (first | exact Tk.here | apply Tk.there)); done))) | apply Sb.drop)) (ex_evalx (e := r15.1) (m := r15.2) hn ht hv (by rw [hr15]; exact ⟨hsx, hsy⟩)) ct17 rfl fun r21 hr21 => ?_
            refine svg rfl (vmT rfl) <| svg rfl (vmP rfl) <| svg rfl (vmI rfl) <| svg rfl (vmI rfl) <| svg rfl (vmI rfl) <| gy rfl <| clx (by repeat' (first | with_reducible exact Sb.all | exact Sb.nil | (apply Sb.cons; focus (first | ((repeat (first | with_reducible exact Tk.here | with_reducible apply Tk.there)); done) | ((repeat (first | exact Tk.here | apply Tk.there)); done))) | apply Sb.drop)) (ex_evalx (e := r1.1) (m := r1.2) hn ht hv (by rw [hr1]; exact hsx)) ct17 rfl fun r22 hr22 => ?_
            refine svg rfl (vmP rfl) <| svg rfl (vmI rfl) <| svg rfl (vmI rfl) <| svg rfl (vmI rfl) <| gy rfl <| clx (by repeat' (first | with_reducible exact Sb.all | exact Sb.nil | (apply Sb.cons; focus (first | ((repeat (first | with_reducible exact Tk.here | with_reducible apply Tk.there)); done) | ((repeat (first | exact Tk.here | apply Tk.there)); done))) | apply Sb.drop)) (ex_evalx (e := r2.1) (m := r2.2) hn ht hv (by rw [hr2]; exact hsy)) ct17 rfl fun r23 hr23 => ?_
            refine gy rfl <| clx (by repeat' (first | with_reducible exact Sb.all | exact Sb.nil | (apply Sb.cons; focus (first | ((repeat (first | with_reducible exact Tk.here | with_reducible apply Tk.there)); done) | ((repeat (first | exact Tk.here | apply Tk.there)); done))) | apply Sb.drop)) (ref_two) ct19 rfl fun r24 hr24 => ?_
            refine svg rfl (vT (veq rfl rfl) (by rw [hr15, hr1, hr2]; rfl)) <| sv (vpkt rfl) <| sv (vmB rfl) <| svg rfl (vmP rfl) <| gy rfl <| clx (by repeat' (first | with_reducible exact Sb.all | exact Sb.nil | (apply Sb.cons; focus (first | ((repeat (first | with_reducible exact Tk.here | with_reducible apply Tk.there)); done) | ((repeat (first | exact Tk.here | apply Tk.there)); done))) | apply Sb.drop)) (ex_text (e := r15.1) (m := r15.2)) ct13 rfl fun r25 hr25 => ?_
            refine svg rfl (vmP rfl) <| gy rfl <| clx (by repeat' (first | with_reducible exact Sb.all | exact Sb.nil | (apply Sb.cons; focus (first | ((repeat (first | with_reducible exact Tk.here | with_reducible apply Tk.there)); done) | ((repeat (first | exact Tk.here | apply Tk.there)); done))) | apply Sb.drop)) (ex_text (e := r1.1) (m := r1.2)) ct13 rfl fun r26 hr26 => ?_
            refine svg rfl (vcat rfl rfl (by simp only [ByteArray.size_append, bs_size, mk1_size, hr1, hr2]; omega)) <| svg rfl (vcat rfl rfl (by simp only [ByteArray.size_append, bs_size, mk1_size, hr1, hr2]; omega)) <| svg rfl (vmT rfl) <| svg rfl (vcat rfl rfl (by simp only [ByteArray.size_append, bs_size, mk1_size, hr1, hr2]; omega)) <| svg rfl (vcat rfl rfl (by simp only [ByteArray.size_append, bs_size, mk1_size, hr1, hr2]; omega)) <| svg rfl (vmP rfl) <| gy rfl <| clx (by repeat' (first | with_reducible exact Sb.all | exact Sb.nil | (apply Sb.cons; focus (first | ((repeat (first | with_reducible exact Tk.here | with_reducible apply Tk.there)); done) | ((repeat (first | exact Tk.here | apply Tk.there)); done))) | apply Sb.drop)) (ex_text (e := r2.1) (m := r2.2)) ct13 rfl fun r31 hr31 => ?_
            refine svg rfl (vcat rfl rfl (by simp only [ByteArray.size_append, bs_size, mk1_size, hr1, hr2]; omega)) <| svg rfl (vcat rfl rfl (by simp only [ByteArray.size_append, bs_size, mk1_size, hr1, hr2]; omega)) <| svg rfl (vT (veqs rfl rfl) (by rw [hr15, hr1, hr2]; exact bn_txt.symm)) <| sv (vpkt rfl) <| sv (vmB rfl) <| svg rfl (vmP rfl) <| gy rfl <| clx (by repeat' (first | with_reducible exact Sb.all | exact Sb.nil | (apply Sb.cons; focus (first | ((repeat (first | with_reducible exact Tk.here | with_reducible apply Tk.there)); done) | ((repeat (first | exact Tk.here | apply Tk.there)); done))) | apply Sb.drop)) (ex_size (e := r15.1) (m := r15.2)) ct15 rfl fun r34 hr34 => ?_
            refine svg rfl (vmP rfl) <| gy rfl <| clx (by repeat' (first | with_reducible exact Sb.all | exact Sb.nil | (apply Sb.cons; focus (first | ((repeat (first | with_reducible exact Tk.here | with_reducible apply Tk.there)); done) | ((repeat (first | exact Tk.here | apply Tk.there)); done))) | apply Sb.drop)) (ex_size (e := r1.1) (m := r1.2)) ct15 rfl fun r35 hr35 => ?_
            refine svg rfl (vmP rfl) <| gy rfl <| clx (by repeat' (first | with_reducible exact Sb.all | exact Sb.nil | (apply Sb.cons; focus (first | ((repeat (first | with_reducible exact Tk.here | with_reducible apply Tk.there)); done) | ((repeat (first | exact Tk.here | apply Tk.there)); done))) | apply Sb.drop)) (ex_size (e := r2.1) (m := r2.2)) ct15 rfl fun r36 hr36 => ?_
            exact svg rfl (vadd rfl rfl (by rw [hr1, hr2]; omega)) <| svg rfl (vadd rfl rfl (by rw [hr1, hr2]; omega)) <| svg rfl (vT (veq rfl rfl) (by rw [hr15, hr1, hr2]; simp [Expr.sizeT])) <| sv (vpkt rfl) <| sv (vaB rfl) <| WL.nil <| WX.mid () trivial ⟨rfl, trivial⟩ trivial (fun _ h => Sb.own (by repeat' (first | with_reducible exact Sb.all | exact Sb.nil | (apply Sb.cons; focus (first | ((repeat (first | with_reducible exact Tk.here | with_reducible apply Tk.there)); done) | ((repeat (first | exact Tk.here | apply Tk.there)); done))) | apply Sb.drop)) h)
          exact WC.ret <| WX.ret1 rfl (()) (trivial) rfl (fun w h => Sb.own (by repeat' (first | with_reducible exact Sb.all | exact Sb.nil | (apply Sb.cons; focus (first | ((repeat (first | with_reducible exact Tk.here | with_reducible apply Tk.there)); done) | ((repeat (first | exact Tk.here | apply Tk.there)); done))) | apply Sb.drop)) h)
theorem law_puts {w0 : World} {A : List HProp} {S R : ByteArray} {op n t v : Int} (htb : TabW w0) (hop : I64 op) (hn : I64 n) (ht : I64 t) (hv : I64 v) :
    Fun Tryd.prog w0 6 [.string S, .string R, .int .i64 op, .int .i64 n, .int .i64 t, .int .i64 v] A (Ret w0 (fun _ : Unit => True) (fun _ => .bool true) (fun _ => A)) := by
  cases ha : parseS S.data.toList with
  | error e => obtain ⟨k, e⟩ := e; exact pt_erra htb ha rfl
  | ok x =>
    cases hb : parseS R.data.toList with
    | error e => obtain ⟨k, e⟩ := e; exact pt_errb htb ha hb
    | ok y =>
      obtain ⟨hsx, hzx, _, _⟩ := parseS_sm ha
      obtain ⟨hsy, hzy, _, _⟩ := parseS_sm hb
      by_cases hl : 200 < (putS S.data.toList R.data.toList (boAt (ixI op))).length
      · exact pt_long (kc := 0) htb hop ha hb (by unfold parseS; rw [if_pos hl])
      · have k := puts_parse ha hb (boAt (ixI op)) (by omega)
        by_cases h64 : Expr.sizeT x + Expr.sizeT y + 1 ≤ 64
        · exact pt_ok htb hop ha hb hn ht hv hsx hsy hzx hzy (k.1 h64)
        · obtain ⟨kc, hc⟩ := k.2 (by omega) hzx
          exact pt_many htb hop ha hb hc
end Go.Proofs.YtoeglkkmjmhmiaaDoor
