/-
  Layer 4: the law about signs.
-/
import Derived.Test.YtoeglkkmjmhmiaaDoorExprRanks
import Derived.Test.YtoeglkkmjmhmiaaDoorExprTurn
set_option linter.unusedVariables false
set_option linter.unusedSimpArgs false
set_option maxRecDepth 4000
namespace Go.Proofs.YtoeglkkmjmhmiaaDoor
open Go.Sl Go.RowKit Go.Expr Go.Shelf

theorem ex_parse_bad_of {w0 : World} {A : List HProp} {S : ByteArray} {k : Nat} {e : Int} (ht : TabW w0) (h : parseS S.data.toList = .error (k, e)) : Fun Tryd.prog w0 10 [.string S] A (PBad w0 A k e) := ex_parse_of ht h
theorem ex_parse_ok_of {w0 : World} {A : List HProp} {S : ByteArray} {x : Tr} (ht : TabW w0) (h : parseS S.data.toList = .ok x) : Fun Tryd.prog w0 10 [.string S] A (POk w0 A x) := ex_parse_of ht h
theorem er_ne {s : List UInt8} {k : Nat} {e : Int} (h : parseS s = .error (k, e)) : e ≠ 0 := by
  rcases (parse_er h).1 with h | h | h | h <;> omega
theorem ba3 {a b c d : UInt8} {S : ByteArray} : (ByteArray.mk #[a, b, c] ++ S ++ ByteArray.mk #[d]).data.toList = a :: b :: c :: (S.data.toList ++ [d]) := by
  simp [ByteArray.data_append]
theorem sgn_a {S : ByteArray} : (ByteArray.mk #[45, 45, 40] ++ S ++ ByteArray.mk #[41]).data.toList = sgB true :: sgB true :: 40 :: (S.data.toList ++ [41]) := ba3
theorem sgn_b {S : ByteArray} : (ByteArray.mk #[33, 33, 40] ++ S ++ ByteArray.mk #[41]).data.toList = sgB false :: sgB false :: 40 :: (S.data.toList ++ [41]) := ba3
theorem wrap_wrap {a : Int} (h : I64 a) : IntKind.i64.wrap (0 - IntKind.i64.wrap (0 - a)) = a := by
  obtain ⟨h1, h2⟩ := h
  by_cases h3 : a = -9223372036854775808
  · subst h3; rfl
  · rw [wrap_id (a := 0 - a) ⟨by omega, by omega⟩, wrap_id ⟨by omega, by omega⟩]; omega
theorem sg_err {w0 : World} {A : List HProp} {S : ByteArray} {n t v : Int} {k : Nat} {e : Int} (htb : TabW w0) (hR : parseS S.data.toList = .error (k, e)) : Fun Tryd.prog w0 9 [.string S, .int .i64 n, .int .i64 t, .int .i64 v] A (Ret w0 (fun _ : Unit => True) (fun _ => .bool true) (fun _ => A)) := by
  have he := er_ne hR
  refine Fun.enter Tryd.func9 rfl Tryd.ntmps9 rfl ?_
  refine WC.seq <| WC.region <| sv (vaB rfl) <| WL.nil <| WX.thenN <| WC.seq <| WC.region <| sv (vmT rfl) <| clx (by repeat' (first | with_reducible exact Sb.all | exact Sb.nil | (apply Sb.cons; focus (first | ((repeat (first | with_reducible exact Tk.here | with_reducible apply Tk.there)); done) | ((repeat (first | exact Tk.here | apply Tk.there)); done))) | apply Sb.drop)) (ex_parse_bad_of htb hR) ct10 rfl fun r1 hr1 => ?_
  refine sv vmv <| sv (vex rfl rfl) <| sv (vex rfl rfl) <| sv (vex rfl rfl) <| sv (vaP rfl) <| sv (vaI rfl) <| sv (vaI rfl) <| WL.nil <| WX.thenN <| WC.seq <| ?_
  refine WC.cutS [(32, .bool true)] [(0, .string _), (1, .int _ _), (2, .int _ _), (3, .int _ _), (9, .pointer _)] ⟨rfl, rfl, rfl, rfl, rfl, trivial⟩ ?_ fun ρh => ?_
  · -- more.go:40
    exact WC.region <| sv (vmI rfl) <| sv (vT (vne rfl rfl) (by omega)) <| sv (vmB rfl) <| sng rfl <| sng rfl <| sng rfl <| sv (vpkt rfl) <| WL.nil <| WX.mid () trivial ⟨rfl, trivial⟩ ⟨rfl, rfl, rfl, rfl, rfl, trivial⟩ (fun _ h => Sb.own (by repeat' (first | with_reducible exact Sb.all | exact Sb.nil | (apply Sb.cons; focus (first | ((repeat (first | with_reducible exact Tk.here | with_reducible apply Tk.there)); done) | ((repeat (first | exact Tk.here | apply Tk.there)); done))) | apply Sb.drop)) h)
  refine WC.iteb rfl (fun h1 => ?_) (fun h1 => ?_)
  · -- then
    refine WC.seq <| WC.region <| clx (by repeat' (first | with_reducible exact Sb.all | exact Sb.nil | (apply Sb.cons; focus (first | ((repeat (first | with_reducible exact Tk.here | with_reducible apply Tk.there)); done) | ((repeat (first | exact Tk.here | apply Tk.there)); done))) | apply Sb.drop)) (law_awake htb) ct12 rfl fun r2 hr2 => ?_
    exact sv (vaB rfl) <| WL.nil <| WX.thenN <| WC.ret <| WX.thenR <| WX.ret1 rfl (()) (trivial) rfl (fun _ h => Sb.own (by repeat' (first | with_reducible exact Sb.all | exact Sb.nil | (apply Sb.cons; focus (first | ((repeat (first | with_reducible exact Tk.here | with_reducible apply Tk.there)); done) | ((repeat (first | exact Tk.here | apply Tk.there)); done))) | apply Sb.drop)) h)
  · -- else
    exact absurd h1 (by decide)
theorem sg_long {w0 : World} {A : List HProp} {S : ByteArray} {n t v : Int} {x : Tr} (htb : TabW w0) (hR : parseS S.data.toList = .ok x) (hl : 190 < S.size) : Fun Tryd.prog w0 9 [.string S, .int .i64 n, .int .i64 t, .int .i64 v] A (Ret w0 (fun _ : Unit => True) (fun _ => .bool true) (fun _ => A)) := by
  refine Fun.enter Tryd.func9 rfl Tryd.ntmps9 rfl ?_
  refine WC.seq <| WC.region <| sv (vaB rfl) <| WL.nil <| WX.thenN <| WC.seq <| WC.region <| sv (vmT rfl) <| clx (by repeat' (first | with_reducible exact Sb.all | exact Sb.nil | (apply Sb.cons; focus (first | ((repeat (first | with_reducible exact Tk.here | with_reducible apply Tk.there)); done) | ((repeat (first | exact Tk.here | apply Tk.there)); done))) | apply Sb.drop)) (ex_parse_ok_of htb hR) ct10 rfl fun r1 hr1 => ?_
  refine sv vmv <| sv (vex rfl rfl) <| sv (vex rfl rfl) <| sv (vex rfl rfl) <| sv (vaP rfl) <| sv (vaI rfl) <| sv (vaI rfl) <| WL.nil <| WX.thenN <| WC.seq <| ?_
  refine WC.cutS [(32, .bool true)] [(0, .string _), (1, .int _ _), (2, .int _ _), (3, .int _ _), (9, .pointer _)] ⟨rfl, rfl, rfl, rfl, rfl, trivial⟩ ?_ fun ρh => ?_
  · -- more.go:40
    exact WC.region <| sv (vmI rfl) <| sv (vF (vne rfl rfl) (by omega)) <| sv (vmB rfl) <| svg rfl (vmT rfl) <| svg rfl (vlens Tryd.underlying9 rfl) <| svg rfl (vT (vgt rfl rfl) (by omega)) <| sv (vpkf rfl) <| WL.nil <| WX.mid () trivial ⟨rfl, trivial⟩ ⟨rfl, rfl, rfl, rfl, rfl, trivial⟩ (fun _ h => Sb.own (by repeat' (first | with_reducible exact Sb.all | exact Sb.nil | (apply Sb.cons; focus (first | ((repeat (first | with_reducible exact Tk.here | with_reducible apply Tk.there)); done) | ((repeat (first | exact Tk.here | apply Tk.there)); done))) | apply Sb.drop)) h)
  refine WC.iteb rfl (fun h1 => ?_) (fun h1 => ?_)
  · -- then
    refine WC.seq <| WC.region <| clx (by repeat' (first | with_reducible exact Sb.all | exact Sb.nil | (apply Sb.cons; focus (first | ((repeat (first | with_reducible exact Tk.here | with_reducible apply Tk.there)); done) | ((repeat (first | exact Tk.here | apply Tk.there)); done))) | apply Sb.drop)) (law_awake htb) ct12 rfl fun r2 hr2 => ?_
    exact sv (vaB rfl) <| WL.nil <| WX.thenN <| WC.ret <| WX.thenR <| WX.ret1 rfl (()) (trivial) rfl (fun w h => Sb.own (by repeat' (first | with_reducible exact Sb.all | exact Sb.nil | (apply Sb.cons; focus (first | ((repeat (first | with_reducible exact Tk.here | with_reducible apply Tk.there)); done) | ((repeat (first | exact Tk.here | apply Tk.there)); done))) | apply Sb.drop)) h)
  · -- else
    exact absurd h1 (by decide)
theorem sg_many {w0 : World} {A : List HProp} {S : ByteArray} {n t v : Int} {x : Tr} {k1 k2 : Nat} (htb : TabW w0) (hR : parseS S.data.toList = .ok x) (hl : S.size ≤ 190) (ha : parseS (sgB true :: sgB true :: 40 :: (S.data.toList ++ [41])) = .error (k1, 5)) (hb : parseS (sgB false :: sgB false :: 40 :: (S.data.toList ++ [41])) = .error (k2, 5)) : Fun Tryd.prog w0 9 [.string S, .int .i64 n, .int .i64 t, .int .i64 v] A (Ret w0 (fun _ : Unit => True) (fun _ => .bool true) (fun _ => A)) := by
  refine Fun.enter Tryd.func9 rfl Tryd.ntmps9 rfl ?_
  refine WC.seq <| WC.region <| sv (vaB rfl) <| WL.nil <| WX.thenN <| WC.seq <| WC.region <| sv (vmT rfl) <| clx (by repeat' (first | with_reducible exact Sb.all | exact Sb.nil | (apply Sb.cons; focus (first | ((repeat (first | with_reducible exact Tk.here | with_reducible apply Tk.there)); done) | ((repeat (first | exact Tk.here | apply Tk.there)); done))) | apply Sb.drop)) (ex_parse_ok_of htb hR) ct10 rfl fun r1 hr1 => ?_
  refine sv vmv <| sv (vex rfl rfl) <| sv (vex rfl rfl) <| sv (vex rfl rfl) <| sv (vaP rfl) <| sv (vaI rfl) <| sv (vaI rfl) <| WL.nil <| WX.thenN <| WC.seq <| ?_
  refine WC.cutS [(32, .bool false)] [(0, .string _), (1, .int _ _), (2, .int _ _), (3, .int _ _), (9, .pointer _)] ⟨rfl, rfl, rfl, rfl, rfl, trivial⟩ ?_ fun ρh => ?_
  · -- more.go:40
    exact WC.region <| sv (vmI rfl) <| sv (vF (vne rfl rfl) (by omega)) <| sv (vmB rfl) <| svg rfl (vmT rfl) <| svg rfl (vlens Tryd.underlying9 rfl) <| svg rfl (vF (vgt rfl rfl) (by omega)) <| sv (vpkf rfl) <| WL.nil <| WX.mid () trivial ⟨rfl, trivial⟩ ⟨rfl, rfl, rfl, rfl, rfl, trivial⟩ (fun _ h => Sb.own (by repeat' (first | with_reducible exact Sb.all | exact Sb.nil | (apply Sb.cons; focus (first | ((repeat (first | with_reducible exact Tk.here | with_reducible apply Tk.there)); done) | ((repeat (first | exact Tk.here | apply Tk.there)); done))) | apply Sb.drop)) h)
  refine WC.iteb rfl (fun h1 => ?_) (fun h1 => ?_)
  · -- then
    exact absurd h1 (by decide)
  · -- else
    refine WC.skip <| WX.thenN <| WC.seq <| WC.region <| sv (vmT rfl) <| sv (vcat rfl rfl (by rw [mk3_size]; omega)) <| sv (vcat rfl rfl (by rw [ByteArray.size_append, mk3_size, mk1_size]; omega)) <| clx (by repeat' (first | with_reducible exact Sb.all | exact Sb.nil | (apply Sb.cons; focus (first | ((repeat (first | with_reducible exact Tk.here | with_reducible apply Tk.there)); done) | ((repeat (first | exact Tk.here | apply Tk.there)); done))) | apply Sb.drop)) (ex_parse_bad_of htb (by rw [sgn_a]; exact ha)) ct10 rfl fun r5 hr5 => ?_
    refine sv vmv <| sv (vex rfl rfl) <| sv (vex rfl rfl) <| sv (vex rfl rfl) <| sv (vaP rfl) <| sv (vaI rfl) <| sv (vaI rfl) <| WL.nil <| WX.thenN <| WC.seq <| WC.region <| sv (vmT rfl) <| sv (vcat rfl rfl (by rw [mk3_size]; omega)) <| sv (vcat rfl rfl (by rw [ByteArray.size_append, mk3_size, mk1_size]; omega)) <| clx (by repeat' (first | with_reducible exact Sb.all | exact Sb.nil | (apply Sb.cons; focus (first | ((repeat (first | with_reducible exact Tk.here | with_reducible apply Tk.there)); done) | ((repeat (first | exact Tk.here | apply Tk.there)); done))) | apply Sb.drop)) (ex_parse_bad_of htb (by rw [sgn_b]; exact hb)) ct10 rfl fun r8 hr8 => ?_
    refine sv vmv <| sv (vex rfl rfl) <| sv (vex rfl rfl) <| sv (vex rfl rfl) <| sv (vaP rfl) <| sv (vaI rfl) <| sv (vaI rfl) <| WL.nil <| WX.thenN <| WC.seq <| ?_
    refine WC.cutS [(55, .bool true)] [(1, .int _ _), (2, .int _ _), (3, .int _ _), (9, .pointer _), (12, .pointer _), (14, .int _ _), (15, .pointer _), (17, .int _ _)] ⟨rfl, rfl, rfl, rfl, rfl, rfl, rfl, rfl, trivial⟩ ?_ fun ρh => ?_
    · -- more.go:45
      exact WC.region <| sv (vmI rfl) <| sv (vT (veq rfl rfl) (by omega)) <| sv (vmB rfl) <| sng rfl <| sng rfl <| sv (vpkt rfl) <| WL.nil <| WX.mid () trivial ⟨rfl, trivial⟩ ⟨rfl, rfl, rfl, rfl, rfl, rfl, rfl, rfl, trivial⟩ (fun _ h => Sb.own (by repeat' (first | with_reducible exact Sb.all | exact Sb.nil | (apply Sb.cons; focus (first | ((repeat (first | with_reducible exact Tk.here | with_reducible apply Tk.there)); done) | ((repeat (first | exact Tk.here | apply Tk.there)); done))) | apply Sb.drop)) h)
    refine WC.iteb rfl (fun h2 => ?_) (fun h2 => ?_)
    · -- then
      refine WC.cutS [(8, .bool true)] [] trivial ?_ fun ρh => ?_
      · -- more.go:46
        refine WC.region <| clx (by repeat' (first | with_reducible exact Sb.all | exact Sb.nil | (apply Sb.cons; focus (first | ((repeat (first | with_reducible exact Tk.here | with_reducible apply Tk.there)); done) | ((repeat (first | exact Tk.here | apply Tk.there)); done))) | apply Sb.drop)) (law_awake htb) ct12 rfl fun r9 hr9 => ?_
        exact sv (vmB rfl) <| svg rfl (vmI rfl) <| svg rfl (vmI rfl) <| svg rfl (vT (veq rfl rfl) (by omega)) <| sv (vpkt rfl) <| sv (vaB rfl) <| WL.nil <| WX.mid () trivial ⟨rfl, trivial⟩ trivial (fun _ h => Sb.own (by repeat' (first | with_reducible exact Sb.all | exact Sb.nil | (apply Sb.cons; focus (first | ((repeat (first | with_reducible exact Tk.here | with_reducible apply Tk.there)); done) | ((repeat (first | exact Tk.here | apply Tk.there)); done))) | apply Sb.drop)) h)
      exact WC.ret <| WX.thenR <| WX.ret1 rfl (()) (trivial) rfl (fun _ h => Sb.own (by repeat' (first | with_reducible exact Sb.all | exact Sb.nil | (apply Sb.cons; focus (first | ((repeat (first | with_reducible exact Tk.here | with_reducible apply Tk.there)); done) | ((repeat (first | exact Tk.here | apply Tk.there)); done))) | apply Sb.drop)) h)
    · -- else
      exact absurd h2 (by decide)
theorem sg_ok {w0 : World} {A : List HProp} {S : ByteArray} {n t v : Int} {x : Tr} (htb : TabW w0) (hn : I64 n) (ht : I64 t) (hv : I64 v) (hs : Sm x) (hR : parseS S.data.toList = .ok x) (hl : S.size ≤ 190) (ha : parseS (sgB true :: sgB true :: 40 :: (S.data.toList ++ [41])) = .ok (.sg true (.sg true x))) (hb : parseS (sgB false :: sgB false :: 40 :: (S.data.toList ++ [41])) = .ok (.sg false (.sg false x))) : Fun Tryd.prog w0 9 [.string S, .int .i64 n, .int .i64 t, .int .i64 v] A (Ret w0 (fun _ : Unit => True) (fun _ => .bool true) (fun _ => A)) := by
  have hev := eval_i64 hn ht hv x hs
  obtain ⟨ex, hex⟩ : ∃ ex, ex = evalI n t v x := ⟨_, rfl⟩
  have hea : evalI n t v (.sg true (.sg true x)) = ex := by rw [hex]; exact wrap_wrap hev
  have heb : evalI n t v (.sg false (.sg false x)) = if ex = 0 then 0 else 1 := by
    rw [hex]
    show bit (bit (evalI n t v x = 0) = 0) = _
    unfold bit
    by_cases h : evalI n t v x = 0 <;> simp [h]
  refine Fun.enter Tryd.func9 rfl Tryd.ntmps9 rfl ?_
  refine WC.seq <| WC.region <| sv (vaB rfl) <| WL.nil <| WX.thenN <| WC.seq <| WC.region <| sv (vmT rfl) <| clx (by repeat' (first | with_reducible exact Sb.all | exact Sb.nil | (apply Sb.cons; focus (first | ((repeat (first | with_reducible exact Tk.here | with_reducible apply Tk.there)); done) | ((repeat (first | exact Tk.here | apply Tk.there)); done))) | apply Sb.drop)) (ex_parse_ok_of htb hR) ct10 rfl fun r1 hr1 => ?_
  refine sv vmv <| sv (vex rfl rfl) <| sv (vex rfl rfl) <| sv (vex rfl rfl) <| sv (vaP rfl) <| sv (vaI rfl) <| sv (vaI rfl) <| WL.nil <| WX.thenN <| WC.seq <| ?_
  refine WC.cutS [(32, .bool false)] [(0, .string _), (1, .int _ _), (2, .int _ _), (3, .int _ _), (9, .pointer _)] ⟨rfl, rfl, rfl, rfl, rfl, trivial⟩ ?_ fun ρh => ?_
  · -- more.go:40
    exact WC.region <| sv (vmI rfl) <| sv (vF (vne rfl rfl) (by omega)) <| sv (vmB rfl) <| svg rfl (vmT rfl) <| svg rfl (vlens Tryd.underlying9 rfl) <| svg rfl (vF (vgt rfl rfl) (by omega)) <| sv (vpkf rfl) <| WL.nil <| WX.mid () trivial ⟨rfl, trivial⟩ ⟨rfl, rfl, rfl, rfl, rfl, trivial⟩ (fun _ h => Sb.own (by repeat' (first | with_reducible exact Sb.all | exact Sb.nil | (apply Sb.cons; focus (first | ((repeat (first | with_reducible exact Tk.here | with_reducible apply Tk.there)); done) | ((repeat (first | exact Tk.here | apply Tk.there)); done))) | apply Sb.drop)) h)
  refine WC.iteb rfl (fun h1 => ?_) (fun h1 => ?_)
  · -- then
    exact absurd h1 (by decide)
  · -- else
    refine WC.skip <| WX.thenN <| WC.seq <| WC.region <| sv (vmT rfl) <| sv (vcat rfl rfl (by rw [mk3_size]; omega)) <| sv (vcat rfl rfl (by rw [ByteArray.size_append, mk3_size, mk1_size]; omega)) <| clx (by repeat' (first | with_reducible exact Sb.all | exact Sb.nil | (apply Sb.cons; focus (first | ((repeat (first | with_reducible exact Tk.here | with_reducible apply Tk.there)); done) | ((repeat (first | exact Tk.here | apply Tk.there)); done))) | apply Sb.drop)) (ex_parse_ok_of htb (by rw [sgn_a]; exact ha)) ct10 rfl fun r5 hr5 => ?_
    refine sv vmv <| sv (vex rfl rfl) <| sv (vex rfl rfl) <| sv (vex rfl rfl) <| sv (vaP rfl) <| sv (vaI rfl) <| sv (vaI rfl) <| WL.nil <| WX.thenN <| WC.seq <| WC.region <| sv (vmT rfl) <| sv (vcat rfl rfl (by rw [mk3_size]; omega)) <| sv (vcat rfl rfl (by rw [ByteArray.size_append, mk3_size, mk1_size]; omega)) <| clx (by repeat' (first | with_reducible exact Sb.all | exact Sb.nil | (apply Sb.cons; focus (first | ((repeat (first | with_reducible exact Tk.here | with_reducible apply Tk.there)); done) | ((repeat (first | exact Tk.here | apply Tk.there)); done))) | apply Sb.drop)) (ex_parse_ok_of htb (by rw [sgn_b]; exact hb)) ct10 rfl fun r8 hr8 => ?_
    refine sv vmv <| sv (vex rfl rfl) <| sv (vex rfl rfl) <| sv (vex rfl rfl) <| sv (vaP rfl) <| sv (vaI rfl) <| sv (vaI rfl) <| WL.nil <| WX.thenN <| WC.seq <| ?_
    refine WC.cutS [(55, .bool false)] [(1, .int _ _), (2, .int _ _), (3, .int _ _), (9, .pointer _), (12, .pointer _), (14, .int _ _), (15, .pointer _), (17, .int _ _)] ⟨rfl, rfl, rfl, rfl, rfl, rfl, rfl, rfl, trivial⟩ ?_ fun ρh => ?_
    · -- more.go:45
      exact WC.region <| sv (vmI rfl) <| sv (vF (veq rfl rfl) (by omega)) <| sv (vmB rfl) <| svg rfl (vmI rfl) <| svg rfl (vF (veq rfl rfl) (by omega)) <| sv (vpkf rfl) <| WL.nil <| WX.mid () trivial ⟨rfl, trivial⟩ ⟨rfl, rfl, rfl, rfl, rfl, rfl, rfl, rfl, trivial⟩ (fun _ h => Sb.own (by repeat' (first | with_reducible exact Sb.all | exact Sb.nil | (apply Sb.cons; focus (first | ((repeat (first | with_reducible exact Tk.here | with_reducible apply Tk.there)); done) | ((repeat (first | exact Tk.here | apply Tk.there)); done))) | apply Sb.drop)) h)
    refine WC.iteb rfl (fun h2 => ?_) (fun h2 => ?_)
    · -- then
      exact absurd h2 (by decide)
    · -- else
      refine WC.skip <| WX.thenN <| WC.seq <| ?_
      refine WC.cutS [(79, .bool false)] [(1, .int _ _), (2, .int _ _), (3, .int _ _), (9, .pointer _), (12, .pointer _), (15, .pointer _)] ⟨rfl, rfl, rfl, rfl, rfl, rfl, trivial⟩ ?_ fun ρh => ?_
      · -- more.go:48
        exact WC.region <| sv (vmP rfl) <| sv (vpeqF Tryd.underlying22 rfl rfl) <| sv (vmB rfl) <| svg rfl (vmP rfl) <| svg rfl (vpeqF Tryd.underlying22 rfl rfl) <| sv (vpkf rfl) <| sv (vmB rfl) <| svg rfl (vmP rfl) <| svg rfl (vpeqF Tryd.underlying22 rfl rfl) <| sv (vpkf rfl) <| sv (vmB rfl) <| svg rfl (vmI rfl) <| svg rfl (vF (vne rfl rfl) (by omega)) <| sv (vpkf rfl) <| sv (vmB rfl) <| svg rfl (vmI rfl) <| svg rfl (vF (vne rfl rfl) (by omega)) <| sv (vpkf rfl) <| WL.nil <| WX.mid () trivial ⟨rfl, trivial⟩ ⟨rfl, rfl, rfl, rfl, rfl, rfl, trivial⟩ (fun _ h => Sb.own (by repeat' (first | with_reducible exact Sb.all | exact Sb.nil | (apply Sb.cons; focus (first | ((repeat (first | with_reducible exact Tk.here | with_reducible apply Tk.there)); done) | ((repeat (first | exact Tk.here | apply Tk.there)); done))) | apply Sb.drop)) h)
      refine WC.iteb rfl (fun h3 => ?_) (fun h3 => ?_)
      · -- then
        exact absurd h3 (by decide)
      · -- else
        refine WC.skip <| WX.thenN <| WC.seq <| WC.region <| sv (vmP rfl) <| sv (vmI rfl) <| sv (vmI rfl) <| sv (vmI rfl) <| clx (by repeat' (first | with_reducible exact Sb.all | exact Sb.nil | (apply Sb.cons; focus (first | ((repeat (first | with_reducible exact Tk.here | with_reducible apply Tk.there)); done) | ((repeat (first | exact Tk.here | apply Tk.there)); done))) | apply Sb.drop)) (ex_evalx hn ht hv (by rw [hr1]; exact hs)) ct17 rfl fun r13 hr13 => ?_
        refine sv (vaI rfl) <| WL.nil <| WX.thenN <| WC.seq <| WC.region <| sv (vmP rfl) <| sv (vmI rfl) <| sv (vmI rfl) <| sv (vmI rfl) <| clx (by repeat' (first | with_reducible exact Sb.all | exact Sb.nil | (apply Sb.cons; focus (first | ((repeat (first | with_reducible exact Tk.here | with_reducible apply Tk.there)); done) | ((repeat (first | exact Tk.here | apply Tk.there)); done))) | apply Sb.drop)) (ex_evalx hn ht hv (by rw [hr8]; exact hs)) ct17 rfl fun r14 hr14 => ?_
        refine sv (vaI rfl) <| WL.nil <| WX.thenN <| ?_
        refine WC.cutS [(8, .bool true)] [] trivial ?_ fun ρh => ?_
        · -- more.go:53
          refine WC.region <| clx (by repeat' (first | with_reducible exact Sb.all | exact Sb.nil | (apply Sb.cons; focus (first | ((repeat (first | with_reducible exact Tk.here | with_reducible apply Tk.there)); done) | ((repeat (first | exact Tk.here | apply Tk.there)); done))) | apply Sb.drop)) (law_awake htb) ct12 rfl fun r15 hr15 => ?_
          refine sv (vmB rfl) <| svg rfl (vmP rfl) <| svg rfl (vmI rfl) <| svg rfl (vmI rfl) <| svg rfl (vmI rfl) <| gy rfl <| clx (by repeat' (first | with_reducible exact Sb.all | exact Sb.nil | (apply Sb.cons; focus (first | ((repeat (first | with_reducible exact Tk.here | with_reducible apply Tk.there)); done) | ((repeat (first | exact Tk.here | apply Tk.there)); done))) | apply Sb.drop)) (ex_evalx hn ht hv (by rw [hr5]; exact hs)) ct17 rfl fun r16 hr16 => ?_
          exact svg rfl (vmI rfl) <| svg rfl (vT (veq rfl rfl) (by rw [hr5, hea, hr1, hex])) <| sv (vpkt rfl) <| sv (vmB rfl) <| svg rfl (vmI rfl) <| svg rfl (veq rfl rfl) <| svg rfl (vmI rfl) <| svg rfl (vne rfl rfl) <| svg rfl (vT (veqb Tryd.underlying4 rfl rfl) (by rw [hr8, heb, hr1, ← hex]; by_cases h : ex = 0 <;> simp [h])) <| sv (vpkt rfl) <| sv (vmB rfl) <| svg rfl (vmI rfl) <| svg rfl (veq rfl rfl) <| svg rfl (vmI rfl) <| svg rfl (veq rfl rfl) <| svg rfl (vT (veqb Tryd.underlying4 rfl rfl) (by rw [hr8, heb, hr1, ← hex]; by_cases h : ex = 0 <;> simp [h])) <| sv (vpkt rfl) <| sv (vaB rfl) <| WL.nil <| WX.mid () trivial ⟨rfl, trivial⟩ trivial (fun _ h => Sb.own (by repeat' (first | with_reducible exact Sb.all | exact Sb.nil | (apply Sb.cons; focus (first | ((repeat (first | with_reducible exact Tk.here | with_reducible apply Tk.there)); done) | ((repeat (first | exact Tk.here | apply Tk.there)); done))) | apply Sb.drop)) h)
        exact WC.ret <| WX.ret1 rfl (()) (trivial) rfl (fun _ h => Sb.own (by repeat' (first | with_reducible exact Sb.all | exact Sb.nil | (apply Sb.cons; focus (first | ((repeat (first | with_reducible exact Tk.here | with_reducible apply Tk.there)); done) | ((repeat (first | exact Tk.here | apply Tk.there)); done))) | apply Sb.drop)) h)
theorem law_signs {w0 : World} {A : List HProp} {S : ByteArray} {n t v : Int} (htb : TabW w0) (hn : I64 n) (ht : I64 t) (hv : I64 v) : Fun Tryd.prog w0 9 [.string S, .int .i64 n, .int .i64 t, .int .i64 v] A (Ret w0 (fun _ : Unit => True) (fun _ => .bool true) (fun _ => A)) := by
  cases hR : parseS S.data.toList with
  | error e => obtain ⟨k, e⟩ := e; exact sg_err htb hR
  | ok x =>
    obtain ⟨hs, hz, _, _⟩ := parseS_sm hR
    by_cases hl : 190 < S.size
    · exact sg_long htb hR hl
    · have hl2 : S.data.toList.length ≤ 190 := by show S.size ≤ 190; omega
      have ka := signs_parse hR hl2 true
      have kb := signs_parse hR hl2 false
      by_cases h64 : Expr.sizeT x + 2 ≤ 64
      · exact sg_ok htb hn ht hv hs hR (by omega) (ka.1 h64) (kb.1 h64)
      · obtain ⟨k1, h1⟩ := ka.2 (by omega)
        obtain ⟨k2, h2⟩ := kb.2 (by omega)
        exact sg_many htb hR (by omega) h1 h2
end Go.Proofs.YtoeglkkmjmhmiaaDoor
