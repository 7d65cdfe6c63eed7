/-
  Layer 4: a value that is read, road by road.
-/
import Derived.Test.YtoeglkkmjmhmiaaDoorExprSpecF
set_option linter.unusedVariables false
set_option linter.unusedSimpArgs false
set_option maxRecDepth 4000
namespace Go.Proofs.YtoeglkkmjmhmiaaDoor
open Go.Sl Go.RowKit Go.Expr Go.Shelf

theorem ex_skip_none {w0 : World} {A : List HProp} {r p : Nat} {S : ByteArray} {l : List UInt8} (hl : l <:+ S.data.toList) (hS : S.size ≤ 4611686018427387903) (hsk : sk l = []) :
    Fun Tryd.prog w0 21 [.pointer (some ⟨r, 0, none⟩)] (src r S l p :: A) (Ret w0 (fun _ : Unit => True) (fun _ => .bool false) (fun _ => src r S [] p :: A)) := by
  have h := ex_skip (w0 := w0) (A := A) (r := r) (p := p) hl (by omega)
  rw [hsk] at h
  exact h
theorem ex_skip_some {w0 : World} {A : List HProp} {r p : Nat} {S : ByteArray} {l l1 : List UInt8} {c : UInt8} (hl : l <:+ S.data.toList) (hS : S.size ≤ 4611686018427387903) (hsk : sk l = c :: l1) :
    Fun Tryd.prog w0 21 [.pointer (some ⟨r, 0, none⟩)] (src r S l p :: A) (Ret w0 (fun _ : Unit => True) (fun _ => .bool true) (fun _ => src r S (c :: l1) p :: A)) := by
  have h := ex_skip (w0 := w0) (A := A) (r := r) (p := p) hl (by omega)
  rw [hsk] at h
  simpa using h
theorem ex_op {w0 : World} {A : List HProp} {r p : Nat} {S : ByteArray} {l l2 : List UInt8} {w : Wd} (hl : l <:+ S.data.toList) (hS : S.size ≤ 4611686018427387903) (hs : sk l = l2) (hw : wd l2 = w) :
    Fun Tryd.prog w0 30 [.pointer (some ⟨r, 0, none⟩)] (src r S l p :: A) (Ret w0 (fun _ : Unit => True) (fun _ => .string (bs w.bytes)) (fun _ => src r S l2 p :: A)) := by
  have h := ex_operator (w0 := w0) (A := A) (r := r) (p := p) hl hS
  rw [hs, hw] at h
  exact h
theorem bs_app {a b : List UInt8} : bs a ++ bs b = bs (a ++ b) := by
  apply ByteArray.ext
  rw [ByteArray.data_append]
  simp [bs]
theorem sg_txt {neg : Bool} {x : Tr} : sgS neg ++ bs (txt x) = bs (txt (.sg neg x)) := by
  unfold sgS
  rw [bs_app]
  cases neg <;> rfl
theorem ex_value_none {w0 : World} {A : List HProp} {r p : Nat} {S : ByteArray} {l : List UInt8} (hl : l <:+ S.data.toList) (hS : S.size ≤ 4611686018427387903) (hsk : sk l = []) :
    Fun Tryd.prog w0 29 [.pointer (some ⟨r, 0, none⟩)] (src r S l p :: A) (BadR w0 S A [] 41) := by
  unfold BadR
  refine Fun.enter Tryd.func29 rfl Tryd.ntmps29 rfl ?_
  refine WC.seq <| WC.region <| sv (vaP rfl) <| sv (vaP rfl) <| WL.nil <| WX.thenN <| WC.seq <| WC.seq <| WC.region <| sv (vmP rfl) <| clx (by repeat' (first | with_reducible exact Sb.all | exact Sb.nil | (apply Sb.cons; focus (first | ((repeat (first | with_reducible exact Tk.here | with_reducible apply Tk.there)); done) | ((repeat (first | exact Tk.here | apply Tk.there)); done))) | apply Sb.drop)) (ex_skip_none hl hS hsk) ct21 rfl fun r1 hr1 => ?_
  refine sv (vnot rfl) <| WL.nil <| WX.thenN <| ?_
  refine WC.tt rfl ?_
  exact WC.seq <| WC.plan (.pre [0, 1, 2, 3, 4, 5] (.one [7] 6 (.done [8]))) rfl (by kernel_rfl) <| WPl.preC <| dv (fun g => (vmP rfl)) <| dv (fun g => (vnil rfl)) <| dv (fun g => (vfldpz fl43f0 rfl)) <| dv (fun g => (vldc pl9 rfl)) <| dv (fun g => (vlens Tryd.underlying9 rfl)) <| dv (fun g => (vbd (ps := [(0, .int _ _), (1, (.int .i64 41))]) (cs := [_, _]) bt48 zt48 rfl (by rfl))) <| WD.nil <| WPl.oneE (fun g => by infer_instance) <| dv (fun g => (vaP rfl)) <| WD.eff rfl <| bxc (v := .agg _) (cs := [.int _ _, .int _ _]) rfl rfl fun b4 => WL.nil <| WX.br <| WPl.finC <| dv (fun g => (vaP rfl)) <| WD.nil <| WX.thenN <| WC.ret <| WX.thenR <| WX.ret2 rfl (b4) (trivial) rfl (fun w h => Sb.own (by repeat' (first | with_reducible exact Sb.all | exact Sb.nil | (apply Sb.cons; focus (first | ((repeat (first | with_reducible exact Tk.here | with_reducible apply Tk.there)); done) | ((repeat (first | exact Tk.here | apply Tk.there)); done))) | apply Sb.drop)) h)
theorem ex_value_dig_bad {w0 : World} {A : List HProp} {r p : Nat} {S : ByteArray} {l l1 : List UInt8} {c : UInt8} (hl : l <:+ S.data.toList) (hS : S.size ≤ 4611686018427387903) (hsk : sk l = c :: l1) (hl2 : c :: l1 <:+ S.data.toList) (hd : isDig c = true) {l2 : List UInt8} {e : Int} (hf : Fun Tryd.prog w0 37 [.pointer (some ⟨r, 0, none⟩)] (src r S (c :: l1) p :: A) (BadR w0 S A l2 e)) :
    Fun Tryd.prog w0 29 [.pointer (some ⟨r, 0, none⟩)] (src r S l p :: A) (BadR w0 S A l2 e) := by
  unfold BadR at hf ⊢
  have hll := suf_len hl2
  simp only [List.length_cons] at hll
  refine Fun.enter Tryd.func29 rfl Tryd.ntmps29 rfl ?_
  refine WC.seq <| WC.region <| sv (vaP rfl) <| sv (vaP rfl) <| WL.nil <| WX.thenN <| WC.seq <| WC.seq <| WC.region <| sv (vmP rfl) <| clx (by repeat' (first | with_reducible exact Sb.all | exact Sb.nil | (apply Sb.cons; focus (first | ((repeat (first | with_reducible exact Tk.here | with_reducible apply Tk.there)); done) | ((repeat (first | exact Tk.here | apply Tk.there)); done))) | apply Sb.drop)) (ex_skip_some hl hS hsk) ct21 rfl fun r1 hr1 => ?_
  refine sv (vnot rfl) <| WL.nil <| WX.thenN <| ?_
  refine WC.ff rfl ?_
  refine WC.skip <| WX.thenN <| WC.seq <| WC.draws rfl (by kernel_rfl) <| qv (vmP rfl) <| qv (vnil rfl) <| qv (vfldpz fl43f0 rfl) <| qv (vldc pl9 rfl) <| qv (vmP rfl) <| qv (vnil rfl) <| qv (vfldp fl43f1 rfl) <| qv (vldc pl3 rfl) <| qv (vixs Tryd.underlying9 rfl rfl (by omega) (show S[((S.size - (c :: l1).length : Nat) : Int).toNat]? = some c from suf_get0 hl2 (by simp))) <| qv (vaI rfl) <| WQ.nil <| WX.thenN <| WC.seq <| WC.block <| ?_
  refine WC.cutS [(31, .bool (isDig c))] [(0, .pointer _), (4, .int _ _)] ⟨rfl, rfl, trivial⟩ ?_ fun ρh => ?_
  · -- expr.go:131
    refine WC.region <| sv (vmI rfl) <| svs (vge rfl rfl) (fun q1 => ?_) (fun q1 => ?_)
    ·
      exact sv (vmB rfl) <| svg rfl (vmI rfl) <| svg rfl (vle rfl rfl) <| sv (vpkt rfl) <| sv (vaB rfl) <| WL.nil <| WX.mid () trivial ⟨by unfold isDig; exact bI (by omega), trivial⟩ ⟨rfl, rfl, trivial⟩ (fun _ h => Sb.own (by repeat' (first | with_reducible exact Sb.all | exact Sb.nil | (apply Sb.cons; focus (first | ((repeat (first | with_reducible exact Tk.here | with_reducible apply Tk.there)); done) | ((repeat (first | exact Tk.here | apply Tk.there)); done))) | apply Sb.drop)) h)
    ·
      exact sv (vmB rfl) <| sng rfl <| sng rfl <| sv (vpkf rfl) <| sv (vaB rfl) <| WL.nil <| WX.mid () trivial ⟨by unfold isDig; exact bF (by omega), trivial⟩ ⟨rfl, rfl, trivial⟩ (fun _ h => Sb.own (by repeat' (first | with_reducible exact Sb.all | exact Sb.nil | (apply Sb.cons; focus (first | ((repeat (first | with_reducible exact Tk.here | with_reducible apply Tk.there)); done) | ((repeat (first | exact Tk.here | apply Tk.there)); done))) | apply Sb.drop)) h)
  refine WC.iteb rfl (fun h2 => ?_) (fun h2 => ?_)
  · -- then
    refine WC.seq <| WC.region <| sv (vmP rfl) <| clx (by repeat' (first | with_reducible exact Sb.all | exact Sb.nil | (apply Sb.cons; focus (first | ((repeat (first | with_reducible exact Tk.here | with_reducible apply Tk.there)); done) | ((repeat (first | exact Tk.here | apply Tk.there)); done))) | apply Sb.drop)) (hf) ct37 rfl fun r8 hr8 => ?_
    exact sv (vex rfl rfl) <| sv (vex rfl rfl) <| sv (vaP rfl) <| sv (vaP rfl) <| WL.nil <| WX.thenN <| WC.ret <| WX.blockR <| WX.thenR <| WX.ret2 rfl (r8) (trivial) rfl (fun _ h => Sb.own (by repeat' (first | with_reducible exact Sb.all | exact Sb.nil | (apply Sb.cons; focus (first | ((repeat (first | with_reducible exact Tk.here | with_reducible apply Tk.there)); done) | ((repeat (first | exact Tk.here | apply Tk.there)); done))) | apply Sb.drop)) h)
  · -- else
    exact absurd h2 (by rw [hd]; decide)
theorem ex_value_dig_ok {w0 : World} {A : List HProp} {r p : Nat} {S : ByteArray} {l l1 : List UInt8} {c : UInt8} (hl : l <:+ S.data.toList) (hS : S.size ≤ 4611686018427387903) (hsk : sk l = c :: l1) (hl2 : c :: l1 <:+ S.data.toList) (hd : isDig c = true) {l2 : List UInt8} {x : Tr} {q : Nat} (hf : Fun Tryd.prog w0 37 [.pointer (some ⟨r, 0, none⟩)] (src r S (c :: l1) p :: A) (OkR w0 r S A x l2 q)) :
    Fun Tryd.prog w0 29 [.pointer (some ⟨r, 0, none⟩)] (src r S l p :: A) (OkR w0 r S A x l2 q) := by
  unfold OkR at hf ⊢
  have hll := suf_len hl2
  simp only [List.length_cons] at hll
  refine Fun.enter Tryd.func29 rfl Tryd.ntmps29 rfl ?_
  refine WC.seq <| WC.region <| sv (vaP rfl) <| sv (vaP rfl) <| WL.nil <| WX.thenN <| WC.seq <| WC.seq <| WC.region <| sv (vmP rfl) <| clx (by repeat' (first | with_reducible exact Sb.all | exact Sb.nil | (apply Sb.cons; focus (first | ((repeat (first | with_reducible exact Tk.here | with_reducible apply Tk.there)); done) | ((repeat (first | exact Tk.here | apply Tk.there)); done))) | apply Sb.drop)) (ex_skip_some hl hS hsk) ct21 rfl fun r1 hr1 => ?_
  refine sv (vnot rfl) <| WL.nil <| WX.thenN <| ?_
  refine WC.ff rfl ?_
  refine WC.skip <| WX.thenN <| WC.seq <| WC.draws rfl (by kernel_rfl) <| qv (vmP rfl) <| qv (vnil rfl) <| qv (vfldpz fl43f0 rfl) <| qv (vldc pl9 rfl) <| qv (vmP rfl) <| qv (vnil rfl) <| qv (vfldp fl43f1 rfl) <| qv (vldc pl3 rfl) <| qv (vixs Tryd.underlying9 rfl rfl (by omega) (show S[((S.size - (c :: l1).length : Nat) : Int).toNat]? = some c from suf_get0 hl2 (by simp))) <| qv (vaI rfl) <| WQ.nil <| WX.thenN <| WC.seq <| WC.block <| ?_
  refine WC.cutS [(31, .bool (isDig c))] [(0, .pointer _), (4, .int _ _)] ⟨rfl, rfl, trivial⟩ ?_ fun ρh => ?_
  · -- expr.go:131
    refine WC.region <| sv (vmI rfl) <| svs (vge rfl rfl) (fun q1 => ?_) (fun q1 => ?_)
    ·
      exact sv (vmB rfl) <| svg rfl (vmI rfl) <| svg rfl (vle rfl rfl) <| sv (vpkt rfl) <| sv (vaB rfl) <| WL.nil <| WX.mid () trivial ⟨by unfold isDig; exact bI (by omega), trivial⟩ ⟨rfl, rfl, trivial⟩ (fun _ h => Sb.own (by repeat' (first | with_reducible exact Sb.all | exact Sb.nil | (apply Sb.cons; focus (first | ((repeat (first | with_reducible exact Tk.here | with_reducible apply Tk.there)); done) | ((repeat (first | exact Tk.here | apply Tk.there)); done))) | apply Sb.drop)) h)
    ·
      exact sv (vmB rfl) <| sng rfl <| sng rfl <| sv (vpkf rfl) <| sv (vaB rfl) <| WL.nil <| WX.mid () trivial ⟨by unfold isDig; exact bF (by omega), trivial⟩ ⟨rfl, rfl, trivial⟩ (fun _ h => Sb.own (by repeat' (first | with_reducible exact Sb.all | exact Sb.nil | (apply Sb.cons; focus (first | ((repeat (first | with_reducible exact Tk.here | with_reducible apply Tk.there)); done) | ((repeat (first | exact Tk.here | apply Tk.there)); done))) | apply Sb.drop)) h)
  refine WC.iteb rfl (fun h2 => ?_) (fun h2 => ?_)
  · -- then
    refine WC.seq <| WC.region <| sv (vmP rfl) <| clx (by repeat' (first | with_reducible exact Sb.all | exact Sb.nil | (apply Sb.cons; focus (first | ((repeat (first | with_reducible exact Tk.here | with_reducible apply Tk.there)); done) | ((repeat (first | exact Tk.here | apply Tk.there)); done))) | apply Sb.drop)) (hf) ct37 rfl fun r8 hr8 => ?_
    exact sv (vex rfl rfl) <| sv (vex rfl rfl) <| sv (vaP rfl) <| sv (vaP rfl) <| WL.nil <| WX.thenN <| WC.ret <| WX.blockR <| WX.thenR <| WX.ret2 rfl (r8) (hr8) rfl (fun _ h => Sb.own (by repeat' (first | with_reducible exact Sb.all | exact Sb.nil | (apply Sb.cons; focus (first | ((repeat (first | with_reducible exact Tk.here | with_reducible apply Tk.there)); done) | ((repeat (first | exact Tk.here | apply Tk.there)); done))) | apply Sb.drop)) h)
  · -- else
    exact absurd h2 (by rw [hd]; decide)
theorem ex_value_let_bad {w0 : World} {A : List HProp} {r p : Nat} {S : ByteArray} {l l1 : List UInt8} {c : UInt8} (hl : l <:+ S.data.toList) (hS : S.size ≤ 4611686018427387903) (hsk : sk l = c :: l1) (hl2 : c :: l1 <:+ S.data.toList) (hd : isDig c = false) (ht : isLet c = true) {l2 : List UInt8} {e : Int} (hf : Fun Tryd.prog w0 38 [.pointer (some ⟨r, 0, none⟩), u8v c] (src r S (c :: l1) p :: A) (BadR w0 S A l2 e)) :
    Fun Tryd.prog w0 29 [.pointer (some ⟨r, 0, none⟩)] (src r S l p :: A) (BadR w0 S A l2 e) := by
  unfold BadR at hf ⊢
  have hll := suf_len hl2
  simp only [List.length_cons] at hll
  refine Fun.enter Tryd.func29 rfl Tryd.ntmps29 rfl ?_
  refine WC.seq <| WC.region <| sv (vaP rfl) <| sv (vaP rfl) <| WL.nil <| WX.thenN <| WC.seq <| WC.seq <| WC.region <| sv (vmP rfl) <| clx (by repeat' (first | with_reducible exact Sb.all | exact Sb.nil | (apply Sb.cons; focus (first | ((repeat (first | with_reducible exact Tk.here | with_reducible apply Tk.there)); done) | ((repeat (first | exact Tk.here | apply Tk.there)); done))) | apply Sb.drop)) (ex_skip_some hl hS hsk) ct21 rfl fun r1 hr1 => ?_
  refine sv (vnot rfl) <| WL.nil <| WX.thenN <| ?_
  refine WC.ff rfl ?_
  refine WC.skip <| WX.thenN <| WC.seq <| WC.draws rfl (by kernel_rfl) <| qv (vmP rfl) <| qv (vnil rfl) <| qv (vfldpz fl43f0 rfl) <| qv (vldc pl9 rfl) <| qv (vmP rfl) <| qv (vnil rfl) <| qv (vfldp fl43f1 rfl) <| qv (vldc pl3 rfl) <| qv (vixs Tryd.underlying9 rfl rfl (by omega) (show S[((S.size - (c :: l1).length : Nat) : Int).toNat]? = some c from suf_get0 hl2 (by simp))) <| qv (vaI rfl) <| WQ.nil <| WX.thenN <| WC.seq <| WC.block <| ?_
  refine WC.cutS [(31, .bool (isDig c))] [(0, .pointer _), (4, .int _ _)] ⟨rfl, rfl, trivial⟩ ?_ fun ρh => ?_
  · -- expr.go:131
    refine WC.region <| sv (vmI rfl) <| svs (vge rfl rfl) (fun q1 => ?_) (fun q1 => ?_)
    ·
      exact sv (vmB rfl) <| svg rfl (vmI rfl) <| svg rfl (vle rfl rfl) <| sv (vpkt rfl) <| sv (vaB rfl) <| WL.nil <| WX.mid () trivial ⟨by unfold isDig; exact bI (by omega), trivial⟩ ⟨rfl, rfl, trivial⟩ (fun _ h => Sb.own (by repeat' (first | with_reducible exact Sb.all | exact Sb.nil | (apply Sb.cons; focus (first | ((repeat (first | with_reducible exact Tk.here | with_reducible apply Tk.there)); done) | ((repeat (first | exact Tk.here | apply Tk.there)); done))) | apply Sb.drop)) h)
    ·
      exact sv (vmB rfl) <| sng rfl <| sng rfl <| sv (vpkf rfl) <| sv (vaB rfl) <| WL.nil <| WX.mid () trivial ⟨by unfold isDig; exact bF (by omega), trivial⟩ ⟨rfl, rfl, trivial⟩ (fun _ h => Sb.own (by repeat' (first | with_reducible exact Sb.all | exact Sb.nil | (apply Sb.cons; focus (first | ((repeat (first | with_reducible exact Tk.here | with_reducible apply Tk.there)); done) | ((repeat (first | exact Tk.here | apply Tk.there)); done))) | apply Sb.drop)) h)
  refine WC.iteb rfl (fun h2 => ?_) (fun h2 => ?_)
  · -- then
    exact absurd h2 (by rw [hd]; decide)
  · -- else
    refine WC.cutS [(42, .bool (isLet c))] [(0, .pointer _), (4, .int _ _)] ⟨rfl, rfl, trivial⟩ ?_ fun ρh => ?_
    · -- expr.go:133
      refine WC.region <| sv (vmI rfl) <| svs (vge rfl rfl) (fun q2 => ?_) (fun q2 => ?_)
      ·
        refine sv (vmB rfl) <| svg rfl (vmI rfl) <| svsg rfl (vle rfl rfl) (fun q3 => ?_) (fun q3 => ?_)
        ·
          exact sv (vpkt rfl) <| sv (vmB rfl) <| sng rfl <| sng rfl <| sng rfl <| sng rfl <| sng rfl <| sng rfl <| sv (vpkt rfl) <| sv (vaB rfl) <| WL.nil <| WX.mid () trivial ⟨by unfold isLet; exact bT (by omega), trivial⟩ ⟨rfl, rfl, trivial⟩ (fun _ h => Sb.own (by repeat' (first | with_reducible exact Sb.all | exact Sb.nil | (apply Sb.cons; focus (first | ((repeat (first | with_reducible exact Tk.here | with_reducible apply Tk.there)); done) | ((repeat (first | exact Tk.here | apply Tk.there)); done))) | apply Sb.drop)) h)
        ·
          refine sv (vpkt rfl) <| sv (vmB rfl) <| svg rfl (vmI rfl) <| svsg rfl (vge rfl rfl) (fun q4 => ?_) (fun q4 => ?_)
          ·
            exact svg rfl (vmB rfl) <| svg rfl (vmI rfl) <| svg rfl (vle rfl rfl) <| svg rfl (vpkt rfl) <| sv (vpkf rfl) <| sv (vaB rfl) <| WL.nil <| WX.mid () trivial ⟨by unfold isLet; exact bI (by omega), trivial⟩ ⟨rfl, rfl, trivial⟩ (fun _ h => Sb.own (by repeat' (first | with_reducible exact Sb.all | exact Sb.nil | (apply Sb.cons; focus (first | ((repeat (first | with_reducible exact Tk.here | with_reducible apply Tk.there)); done) | ((repeat (first | exact Tk.here | apply Tk.there)); done))) | apply Sb.drop)) h)
          ·
            exact svg rfl (vmB rfl) <| sng rfl <| sng rfl <| svg rfl (vpkf rfl) <| sv (vpkf rfl) <| sv (vaB rfl) <| WL.nil <| WX.mid () trivial ⟨by unfold isLet; exact bF (by omega), trivial⟩ ⟨rfl, rfl, trivial⟩ (fun _ h => Sb.own (by repeat' (first | with_reducible exact Sb.all | exact Sb.nil | (apply Sb.cons; focus (first | ((repeat (first | with_reducible exact Tk.here | with_reducible apply Tk.there)); done) | ((repeat (first | exact Tk.here | apply Tk.there)); done))) | apply Sb.drop)) h)
      ·
        refine sv (vmB rfl) <| sng rfl <| sng rfl <| sv (vpkf rfl) <| sv (vmB rfl) <| svg rfl (vmI rfl) <| svsg rfl (vge rfl rfl) (fun q5 => ?_) (fun q5 => ?_)
        ·
          exact svg rfl (vmB rfl) <| svg rfl (vmI rfl) <| svg rfl (vle rfl rfl) <| svg rfl (vpkt rfl) <| sv (vpkf rfl) <| sv (vaB rfl) <| WL.nil <| WX.mid () trivial ⟨by unfold isLet; exact bI (by omega), trivial⟩ ⟨rfl, rfl, trivial⟩ (fun _ h => Sb.own (by repeat' (first | with_reducible exact Sb.all | exact Sb.nil | (apply Sb.cons; focus (first | ((repeat (first | with_reducible exact Tk.here | with_reducible apply Tk.there)); done) | ((repeat (first | exact Tk.here | apply Tk.there)); done))) | apply Sb.drop)) h)
        ·
          exact svg rfl (vmB rfl) <| sng rfl <| sng rfl <| svg rfl (vpkf rfl) <| sv (vpkf rfl) <| sv (vaB rfl) <| WL.nil <| WX.mid () trivial ⟨by unfold isLet; exact bF (by omega), trivial⟩ ⟨rfl, rfl, trivial⟩ (fun _ h => Sb.own (by repeat' (first | with_reducible exact Sb.all | exact Sb.nil | (apply Sb.cons; focus (first | ((repeat (first | with_reducible exact Tk.here | with_reducible apply Tk.there)); done) | ((repeat (first | exact Tk.here | apply Tk.there)); done))) | apply Sb.drop)) h)
    refine WC.iteb rfl (fun h3 => ?_) (fun h3 => ?_)
    · -- then
      refine WC.seq <| WC.region <| sv (vmP rfl) <| sv (vmI rfl) <| clx (by repeat' (first | with_reducible exact Sb.all | exact Sb.nil | (apply Sb.cons; focus (first | ((repeat (first | with_reducible exact Tk.here | with_reducible apply Tk.there)); done) | ((repeat (first | exact Tk.here | apply Tk.there)); done))) | apply Sb.drop)) (hf) ct38 rfl fun r9 hr9 => ?_
      exact sv (vex rfl rfl) <| sv (vex rfl rfl) <| sv (vaP rfl) <| sv (vaP rfl) <| WL.nil <| WX.thenN <| WC.ret <| WX.blockR <| WX.thenR <| WX.ret2 rfl (r9) (trivial) rfl (fun _ h => Sb.own (by repeat' (first | with_reducible exact Sb.all | exact Sb.nil | (apply Sb.cons; focus (first | ((repeat (first | with_reducible exact Tk.here | with_reducible apply Tk.there)); done) | ((repeat (first | exact Tk.here | apply Tk.there)); done))) | apply Sb.drop)) h)
    · -- else
      exact absurd h3 (by rw [ht]; decide)
theorem ex_value_let_ok {w0 : World} {A : List HProp} {r p : Nat} {S : ByteArray} {l l1 : List UInt8} {c : UInt8} (hl : l <:+ S.data.toList) (hS : S.size ≤ 4611686018427387903) (hsk : sk l = c :: l1) (hl2 : c :: l1 <:+ S.data.toList) (hd : isDig c = false) (ht : isLet c = true) {l2 : List UInt8} {x : Tr} {q : Nat} (hf : Fun Tryd.prog w0 38 [.pointer (some ⟨r, 0, none⟩), u8v c] (src r S (c :: l1) p :: A) (OkR w0 r S A x l2 q)) :
    Fun Tryd.prog w0 29 [.pointer (some ⟨r, 0, none⟩)] (src r S l p :: A) (OkR w0 r S A x l2 q) := by
  unfold OkR at hf ⊢
  have hll := suf_len hl2
  simp only [List.length_cons] at hll
  refine Fun.enter Tryd.func29 rfl Tryd.ntmps29 rfl ?_
  refine WC.seq <| WC.region <| sv (vaP rfl) <| sv (vaP rfl) <| WL.nil <| WX.thenN <| WC.seq <| WC.seq <| WC.region <| sv (vmP rfl) <| clx (by repeat' (first | with_reducible exact Sb.all | exact Sb.nil | (apply Sb.cons; focus (first | ((repeat (first | with_reducible exact Tk.here | with_reducible apply Tk.there)); done) | ((repeat (first | exact Tk.here | apply Tk.there)); done))) | apply Sb.drop)) (ex_skip_some hl hS hsk) ct21 rfl fun r1 hr1 => ?_
  refine sv (vnot rfl) <| WL.nil <| WX.thenN <| ?_
  refine WC.ff rfl ?_
  refine WC.skip <| WX.thenN <| WC.seq <| WC.draws rfl (by kernel_rfl) <| qv (vmP rfl) <| qv (vnil rfl) <| qv (vfldpz fl43f0 rfl) <| qv (vldc pl9 rfl) <| qv (vmP rfl) <| qv (vnil rfl) <| qv (vfldp fl43f1 rfl) <| qv (vldc pl3 rfl) <| qv (vixs Tryd.underlying9 rfl rfl (by omega) (show S[((S.size - (c :: l1).length : Nat) : Int).toNat]? = some c from suf_get0 hl2 (by simp))) <| qv (vaI rfl) <| WQ.nil <| WX.thenN <| WC.seq <| WC.block <| ?_
  refine WC.cutS [(31, .bool (isDig c))] [(0, .pointer _), (4, .int _ _)] ⟨rfl, rfl, trivial⟩ ?_ fun ρh => ?_
  · -- expr.go:131
    refine WC.region <| sv (vmI rfl) <| svs (vge rfl rfl) (fun q1 => ?_) (fun q1 => ?_)
    ·
      exact sv (vmB rfl) <| svg rfl (vmI rfl) <| svg rfl (vle rfl rfl) <| sv (vpkt rfl) <| sv (vaB rfl) <| WL.nil <| WX.mid () trivial ⟨by unfold isDig; exact bI (by omega), trivial⟩ ⟨rfl, rfl, trivial⟩ (fun _ h => Sb.own (by repeat' (first | with_reducible exact Sb.all | exact Sb.nil | (apply Sb.cons; focus (first | ((repeat (first | with_reducible exact Tk.here | with_reducible apply Tk.there)); done) | ((repeat (first | exact Tk.here | apply Tk.there)); done))) | apply Sb.drop)) h)
    ·
      exact sv (vmB rfl) <| sng rfl <| sng rfl <| sv (vpkf rfl) <| sv (vaB rfl) <| WL.nil <| WX.mid () trivial ⟨by unfold isDig; exact bF (by omega), trivial⟩ ⟨rfl, rfl, trivial⟩ (fun _ h => Sb.own (by repeat' (first | with_reducible exact Sb.all | exact Sb.nil | (apply Sb.cons; focus (first | ((repeat (first | with_reducible exact Tk.here | with_reducible apply Tk.there)); done) | ((repeat (first | exact Tk.here | apply Tk.there)); done))) | apply Sb.drop)) h)
  refine WC.iteb rfl (fun h2 => ?_) (fun h2 => ?_)
  · -- then
    exact absurd h2 (by rw [hd]; decide)
  · -- else
    refine WC.cutS [(42, .bool (isLet c))] [(0, .pointer _), (4, .int _ _)] ⟨rfl, rfl, trivial⟩ ?_ fun ρh => ?_
    · -- expr.go:133
      refine WC.region <| sv (vmI rfl) <| svs (vge rfl rfl) (fun q2 => ?_) (fun q2 => ?_)
      ·
        refine sv (vmB rfl) <| svg rfl (vmI rfl) <| svsg rfl (vle rfl rfl) (fun q3 => ?_) (fun q3 => ?_)
        ·
          exact sv (vpkt rfl) <| sv (vmB rfl) <| sng rfl <| sng rfl <| sng rfl <| sng rfl <| sng rfl <| sng rfl <| sv (vpkt rfl) <| sv (vaB rfl) <| WL.nil <| WX.mid () trivial ⟨by unfold isLet; exact bT (by omega), trivial⟩ ⟨rfl, rfl, trivial⟩ (fun _ h => Sb.own (by repeat' (first | with_reducible exact Sb.all | exact Sb.nil | (apply Sb.cons; focus (first | ((repeat (first | with_reducible exact Tk.here | with_reducible apply Tk.there)); done) | ((repeat (first | exact Tk.here | apply Tk.there)); done))) | apply Sb.drop)) h)
        ·
          refine sv (vpkt rfl) <| sv (vmB rfl) <| svg rfl (vmI rfl) <| svsg rfl (vge rfl rfl) (fun q4 => ?_) (fun q4 => ?_)
          ·
            exact svg rfl (vmB rfl) <| svg rfl (vmI rfl) <| svg rfl (vle rfl rfl) <| svg rfl (vpkt rfl) <| sv (vpkf rfl) <| sv (vaB rfl) <| WL.nil <| WX.mid () trivial ⟨by unfold isLet; exact bI (by omega), trivial⟩ ⟨rfl, rfl, trivial⟩ (fun _ h => Sb.own (by repeat' (first | with_reducible exact Sb.all | exact Sb.nil | (apply Sb.cons; focus (first | ((repeat (first | with_reducible exact Tk.here | with_reducible apply Tk.there)); done) | ((repeat (first | exact Tk.here | apply Tk.there)); done))) | apply Sb.drop)) h)
          ·
            exact svg rfl (vmB rfl) <| sng rfl <| sng rfl <| svg rfl (vpkf rfl) <| sv (vpkf rfl) <| sv (vaB rfl) <| WL.nil <| WX.mid () trivial ⟨by unfold isLet; exact bF (by omega), trivial⟩ ⟨rfl, rfl, trivial⟩ (fun _ h => Sb.own (by repeat' (first | with_reducible exact Sb.all | exact Sb.nil | (apply Sb.cons; focus (first | ((repeat (first | with_reducible exact Tk.here | with_reducible apply Tk.there)); done) | ((repeat (first | exact Tk.here | apply Tk.there)); done))) | apply Sb.drop)) h)
      ·
        refine sv (vmB rfl) <| sng rfl <| sng rfl <| sv (vpkf rfl) <| sv (vmB rfl) <| svg rfl (vmI rfl) <| svsg rfl (vge rfl rfl) (fun q5 => ?_) (fun q5 => ?_)
        ·
          exact svg rfl (vmB rfl) <| svg rfl (vmI rfl) <| svg rfl (vle rfl rfl) <| svg rfl (vpkt rfl) <| sv (vpkf rfl) <| sv (vaB rfl) <| WL.nil <| WX.mid () trivial ⟨by unfold isLet; exact bI (by omega), trivial⟩ ⟨rfl, rfl, trivial⟩ (fun _ h => Sb.own (by repeat' (first | with_reducible exact Sb.all | exact Sb.nil | (apply Sb.cons; focus (first | ((repeat (first | with_reducible exact Tk.here | with_reducible apply Tk.there)); done) | ((repeat (first | exact Tk.here | apply Tk.there)); done))) | apply Sb.drop)) h)
        ·
          exact svg rfl (vmB rfl) <| sng rfl <| sng rfl <| svg rfl (vpkf rfl) <| sv (vpkf rfl) <| sv (vaB rfl) <| WL.nil <| WX.mid () trivial ⟨by unfold isLet; exact bF (by omega), trivial⟩ ⟨rfl, rfl, trivial⟩ (fun _ h => Sb.own (by repeat' (first | with_reducible exact Sb.all | exact Sb.nil | (apply Sb.cons; focus (first | ((repeat (first | with_reducible exact Tk.here | with_reducible apply Tk.there)); done) | ((repeat (first | exact Tk.here | apply Tk.there)); done))) | apply Sb.drop)) h)
    refine WC.iteb rfl (fun h3 => ?_) (fun h3 => ?_)
    · -- then
      refine WC.seq <| WC.region <| sv (vmP rfl) <| sv (vmI rfl) <| clx (by repeat' (first | with_reducible exact Sb.all | exact Sb.nil | (apply Sb.cons; focus (first | ((repeat (first | with_reducible exact Tk.here | with_reducible apply Tk.there)); done) | ((repeat (first | exact Tk.here | apply Tk.there)); done))) | apply Sb.drop)) (hf) ct38 rfl fun r9 hr9 => ?_
      exact sv (vex rfl rfl) <| sv (vex rfl rfl) <| sv (vaP rfl) <| sv (vaP rfl) <| WL.nil <| WX.thenN <| WC.ret <| WX.blockR <| WX.thenR <| WX.ret2 rfl (r9) (hr9) rfl (fun _ h => Sb.own (by repeat' (first | with_reducible exact Sb.all | exact Sb.nil | (apply Sb.cons; focus (first | ((repeat (first | with_reducible exact Tk.here | with_reducible apply Tk.there)); done) | ((repeat (first | exact Tk.here | apply Tk.there)); done))) | apply Sb.drop)) h)
    · -- else
      exact absurd h3 (by rw [ht]; decide)
theorem ex_value_sg_many {w0 : World} {A : List HProp} {r p : Nat} {S : ByteArray} {l l1 : List UInt8} {c : UInt8} (hl : l <:+ S.data.toList) (hS : S.size ≤ 4611686018427387903) (hsk : sk l = c :: l1) (hl2 : c :: l1 <:+ S.data.toList) (hd : isDig c = false) (ht : isLet c = false) {neg : Bool} (hw : wd (c :: l1) = if neg then .bin .sub_ else .not_) (hp : p = 64) :
    Fun Tryd.prog w0 29 [.pointer (some ⟨r, 0, none⟩)] (src r S l p :: A) (BadR w0 S A (c :: l1) 5) := by
  unfold BadR
  have hll := suf_len hl2
  simp only [List.length_cons] at hll
  refine Fun.enter Tryd.func29 rfl Tryd.ntmps29 rfl ?_
  refine WC.seq <| WC.region <| sv (vaP rfl) <| sv (vaP rfl) <| WL.nil <| WX.thenN <| WC.seq <| WC.seq <| WC.region <| sv (vmP rfl) <| clx (by repeat' (first | with_reducible exact Sb.all | exact Sb.nil | (apply Sb.cons; focus (first | ((repeat (first | with_reducible exact Tk.here | with_reducible apply Tk.there)); done) | ((repeat (first | exact Tk.here | apply Tk.there)); done))) | apply Sb.drop)) (ex_skip_some hl hS hsk) ct21 rfl fun r1 hr1 => ?_
  refine sv (vnot rfl) <| WL.nil <| WX.thenN <| ?_
  refine WC.ff rfl ?_
  refine WC.skip <| WX.thenN <| WC.seq <| WC.draws rfl (by kernel_rfl) <| qv (vmP rfl) <| qv (vnil rfl) <| qv (vfldpz fl43f0 rfl) <| qv (vldc pl9 rfl) <| qv (vmP rfl) <| qv (vnil rfl) <| qv (vfldp fl43f1 rfl) <| qv (vldc pl3 rfl) <| qv (vixs Tryd.underlying9 rfl rfl (by omega) (show S[((S.size - (c :: l1).length : Nat) : Int).toNat]? = some c from suf_get0 hl2 (by simp))) <| qv (vaI rfl) <| WQ.nil <| WX.thenN <| WC.seq <| WC.block <| ?_
  refine WC.cutS [(31, .bool (isDig c))] [(0, .pointer _), (4, .int _ _)] ⟨rfl, rfl, trivial⟩ ?_ fun ρh => ?_
  · -- expr.go:131
    refine WC.region <| sv (vmI rfl) <| svs (vge rfl rfl) (fun q1 => ?_) (fun q1 => ?_)
    ·
      exact sv (vmB rfl) <| svg rfl (vmI rfl) <| svg rfl (vle rfl rfl) <| sv (vpkt rfl) <| sv (vaB rfl) <| WL.nil <| WX.mid () trivial ⟨by unfold isDig; exact bI (by omega), trivial⟩ ⟨rfl, rfl, trivial⟩ (fun _ h => Sb.own (by repeat' (first | with_reducible exact Sb.all | exact Sb.nil | (apply Sb.cons; focus (first | ((repeat (first | with_reducible exact Tk.here | with_reducible apply Tk.there)); done) | ((repeat (first | exact Tk.here | apply Tk.there)); done))) | apply Sb.drop)) h)
    ·
      exact sv (vmB rfl) <| sng rfl <| sng rfl <| sv (vpkf rfl) <| sv (vaB rfl) <| WL.nil <| WX.mid () trivial ⟨by unfold isDig; exact bF (by omega), trivial⟩ ⟨rfl, rfl, trivial⟩ (fun _ h => Sb.own (by repeat' (first | with_reducible exact Sb.all | exact Sb.nil | (apply Sb.cons; focus (first | ((repeat (first | with_reducible exact Tk.here | with_reducible apply Tk.there)); done) | ((repeat (first | exact Tk.here | apply Tk.there)); done))) | apply Sb.drop)) h)
  refine WC.iteb rfl (fun h2 => ?_) (fun h2 => ?_)
  · -- then
    exact absurd h2 (by rw [hd]; decide)
  · -- else
    refine WC.cutS [(42, .bool (isLet c))] [(0, .pointer _), (4, .int _ _)] ⟨rfl, rfl, trivial⟩ ?_ fun ρh => ?_
    · -- expr.go:133
      refine WC.region <| sv (vmI rfl) <| svs (vge rfl rfl) (fun q2 => ?_) (fun q2 => ?_)
      ·
        refine sv (vmB rfl) <| svg rfl (vmI rfl) <| svsg rfl (vle rfl rfl) (fun q3 => ?_) (fun q3 => ?_)
        ·
          exact sv (vpkt rfl) <| sv (vmB rfl) <| sng rfl <| sng rfl <| sng rfl <| sng rfl <| sng rfl <| sng rfl <| sv (vpkt rfl) <| sv (vaB rfl) <| WL.nil <| WX.mid () trivial ⟨by unfold isLet; exact bT (by omega), trivial⟩ ⟨rfl, rfl, trivial⟩ (fun _ h => Sb.own (by repeat' (first | with_reducible exact Sb.all | exact Sb.nil | (apply Sb.cons; focus (first | ((repeat (first | with_reducible exact Tk.here | with_reducible apply Tk.there)); done) | ((repeat (first | exact Tk.here | apply Tk.there)); done))) | apply Sb.drop)) h)
        ·
          refine sv (vpkt rfl) <| sv (vmB rfl) <| svg rfl (vmI rfl) <| svsg rfl (vge rfl rfl) (fun q4 => ?_) (fun q4 => ?_)
          ·
            exact svg rfl (vmB rfl) <| svg rfl (vmI rfl) <| svg rfl (vle rfl rfl) <| svg rfl (vpkt rfl) <| sv (vpkf rfl) <| sv (vaB rfl) <| WL.nil <| WX.mid () trivial ⟨by unfold isLet; exact bI (by omega), trivial⟩ ⟨rfl, rfl, trivial⟩ (fun _ h => Sb.own (by repeat' (first | with_reducible exact Sb.all | exact Sb.nil | (apply Sb.cons; focus (first | ((repeat (first | with_reducible exact Tk.here | with_reducible apply Tk.there)); done) | ((repeat (first | exact Tk.here | apply Tk.there)); done))) | apply Sb.drop)) h)
          ·
            exact svg rfl (vmB rfl) <| sng rfl <| sng rfl <| svg rfl (vpkf rfl) <| sv (vpkf rfl) <| sv (vaB rfl) <| WL.nil <| WX.mid () trivial ⟨by unfold isLet; exact bF (by omega), trivial⟩ ⟨rfl, rfl, trivial⟩ (fun _ h => Sb.own (by repeat' (first | with_reducible exact Sb.all | exact Sb.nil | (apply Sb.cons; focus (first | ((repeat (first | with_reducible exact Tk.here | with_reducible apply Tk.there)); done) | ((repeat (first | exact Tk.here | apply Tk.there)); done))) | apply Sb.drop)) h)
      ·
        refine sv (vmB rfl) <| sng rfl <| sng rfl <| sv (vpkf rfl) <| sv (vmB rfl) <| svg rfl (vmI rfl) <| svsg rfl (vge rfl rfl) (fun q5 => ?_) (fun q5 => ?_)
        ·
          exact svg rfl (vmB rfl) <| svg rfl (vmI rfl) <| svg rfl (vle rfl rfl) <| svg rfl (vpkt rfl) <| sv (vpkf rfl) <| sv (vaB rfl) <| WL.nil <| WX.mid () trivial ⟨by unfold isLet; exact bI (by omega), trivial⟩ ⟨rfl, rfl, trivial⟩ (fun _ h => Sb.own (by repeat' (first | with_reducible exact Sb.all | exact Sb.nil | (apply Sb.cons; focus (first | ((repeat (first | with_reducible exact Tk.here | with_reducible apply Tk.there)); done) | ((repeat (first | exact Tk.here | apply Tk.there)); done))) | apply Sb.drop)) h)
        ·
          exact svg rfl (vmB rfl) <| sng rfl <| sng rfl <| svg rfl (vpkf rfl) <| sv (vpkf rfl) <| sv (vaB rfl) <| WL.nil <| WX.mid () trivial ⟨by unfold isLet; exact bF (by omega), trivial⟩ ⟨rfl, rfl, trivial⟩ (fun _ h => Sb.own (by repeat' (first | with_reducible exact Sb.all | exact Sb.nil | (apply Sb.cons; focus (first | ((repeat (first | with_reducible exact Tk.here | with_reducible apply Tk.there)); done) | ((repeat (first | exact Tk.here | apply Tk.there)); done))) | apply Sb.drop)) h)
    refine WC.iteb rfl (fun h3 => ?_) (fun h3 => ?_)
    · -- then
      exact absurd h3 (by rw [ht]; decide)
    · -- else
      refine WC.skip <| WX.blockN <| WX.thenN <| WC.seq <| WC.seq <| WC.region <| sv (vmP rfl) <| clx (by repeat' (first | with_reducible exact Sb.all | exact Sb.nil | (apply Sb.cons; focus (first | ((repeat (first | with_reducible exact Tk.here | with_reducible apply Tk.there)); done) | ((repeat (first | exact Tk.here | apply Tk.there)); done))) | apply Sb.drop)) ((show Fun Tryd.prog w0 _ _ _ (Ret w0 _ (fun _ => .string (sgS neg)) _) from by have h := ex_op (w0 := w0) (A := A) (r := r) (p := p) hl2 hS (sk_cons (sk_head hsk)) hw; cases neg <;> exact h)) ct30 rfl fun r10 hr10 => ?_
      refine alz (cs := [.string ByteArray.empty]) zt9 (by rfl) fun b11 => stp (v := .string _) pl9 sz9 rfl rfl rfl <| WL.nil <| WX.thenN <| WC.seq <| WC.region <| sv (vldc pl9 rfl) <| WL.nil <| WX.thenN <| WC.block <| ?_
      refine WC.cutvS (ι := Unit) (fun i => [(65, .bool true)]) [(0, .pointer _), (5, _), (64, .string _)] (fun i => True) ⟨rfl, rfl, rfl, trivial⟩ ?_ ?_
      · -- up to the join
        refine WC.seq <| WC.region <| sv (veqs rfl rfl) <| sv (vaB rfl) <| WL.nil <| WX.thenN <| ?_
        refine WC.ite rfl (fun h4 => ?_) (fun h4 => ?_)
        · -- then
          exact WC.skip <| WX.mid (()) (trivial) ⟨(bT h4).symm, trivial⟩ ⟨rfl, rfl, rfl, trivial⟩ (fun _ h => Sb.own (by repeat' (first | with_reducible exact Sb.all | exact Sb.nil | (apply Sb.cons; focus (first | ((repeat (first | with_reducible exact Tk.here | with_reducible apply Tk.there)); done) | ((repeat (first | exact Tk.here | apply Tk.there)); done))) | apply Sb.drop)) h)
        · -- else
          exact WC.region <| sv (veqs rfl rfl) <| sv (vaB rfl) <| WL.nil <| WX.mid (()) (trivial) ⟨(bT (by cases neg; rfl; exact absurd rfl h4)).symm, trivial⟩ ⟨rfl, rfl, rfl, trivial⟩ (fun _ h => Sb.own (by repeat' (first | with_reducible exact Sb.all | exact Sb.nil | (apply Sb.cons; focus (first | ((repeat (first | with_reducible exact Tk.here | with_reducible apply Tk.there)); done) | ((repeat (first | exact Tk.here | apply Tk.there)); done))) | apply Sb.drop)) h)
      · -- behind the join
        intro _ _ ρh
        refine WC.iteb rfl (fun h5 => ?_) (fun h5 => ?_)
        · -- then
          refine WC.seq <| WC.seq <| WC.region <| sv (vmP rfl) <| clx (by repeat' (first | with_reducible exact Sb.all | exact Sb.nil | (apply Sb.cons; focus (first | ((repeat (first | with_reducible exact Tk.here | with_reducible apply Tk.there)); done) | ((repeat (first | exact Tk.here | apply Tk.there)); done))) | apply Sb.drop)) (ex_part_many (k := 1) hp) ct32 rfl fun r14 hr14 => ?_
          refine sv (vaP rfl) <| WL.nil <| WX.thenN <| WC.seq <| WC.region <| sv (vmP rfl) <| sv (vpneT Tryd.underlying44 rfl rfl) <| WL.nil <| WX.thenN <| ?_
          refine WC.tt rfl ?_
          exact WC.seq <| WC.region <| sv (vmP rfl) <| sv (vaP rfl) <| sv (vaP rfl) <| WL.nil <| WX.thenN <| WC.ret <| WX.thenR <| WX.blockR <| WX.thenR <| WX.ret2 rfl (r14) (trivial) rfl (fun w h => Sb.own (by repeat' (first | with_reducible exact Sb.all | exact Sb.nil | (apply Sb.cons; focus (first | ((repeat (first | with_reducible exact Tk.here | with_reducible apply Tk.there)); done) | ((repeat (first | exact Tk.here | apply Tk.there)); done))) | apply Sb.drop)) h)
        · -- else
          exact absurd h5 (by decide)
theorem ex_value_sg_bad {w0 : World} {A : List HProp} {r p : Nat} {S : ByteArray} {l l1 : List UInt8} {c : UInt8} (hl : l <:+ S.data.toList) (hS : S.size ≤ 4611686018427387903) (hsk : sk l = c :: l1) (hl2 : c :: l1 <:+ S.data.toList) (hd : isDig c = false) (ht : isLet c = false) {neg : Bool} {l2 : List UInt8} {e : Int} (hw : wd (c :: l1) = if neg then .bin .sub_ else .not_) (hp : p < 64) (hf : ∀ A, Fun Tryd.prog w0 29 [.pointer (some ⟨r, 0, none⟩)] (src r S l1 (p + 1) :: A) (BadR w0 S A l2 e)) :
    Fun Tryd.prog w0 29 [.pointer (some ⟨r, 0, none⟩)] (src r S l p :: A) (BadR w0 S A l2 e) := by
  unfold BadR at hf ⊢
  have hll := suf_len hl2
  simp only [List.length_cons] at hll
  refine Fun.enter Tryd.func29 rfl Tryd.ntmps29 rfl ?_
  refine WC.seq <| WC.region <| sv (vaP rfl) <| sv (vaP rfl) <| WL.nil <| WX.thenN <| WC.seq <| WC.seq <| WC.region <| sv (vmP rfl) <| clx (by repeat' (first | with_reducible exact Sb.all | exact Sb.nil | (apply Sb.cons; focus (first | ((repeat (first | with_reducible exact Tk.here | with_reducible apply Tk.there)); done) | ((repeat (first | exact Tk.here | apply Tk.there)); done))) | apply Sb.drop)) (ex_skip_some hl hS hsk) ct21 rfl fun r1 hr1 => ?_
  refine sv (vnot rfl) <| WL.nil <| WX.thenN <| ?_
  refine WC.ff rfl ?_
  refine WC.skip <| WX.thenN <| WC.seq <| WC.draws rfl (by kernel_rfl) <| qv (vmP rfl) <| qv (vnil rfl) <| qv (vfldpz fl43f0 rfl) <| qv (vldc pl9 rfl) <| qv (vmP rfl) <| qv (vnil rfl) <| qv (vfldp fl43f1 rfl) <| qv (vldc pl3 rfl) <| qv (vixs Tryd.underlying9 rfl rfl (by omega) (show S[((S.size - (c :: l1).length : Nat) : Int).toNat]? = some c from suf_get0 hl2 (by simp))) <| qv (vaI rfl) <| WQ.nil <| WX.thenN <| WC.seq <| WC.block <| ?_
  refine WC.cutS [(31, .bool (isDig c))] [(0, .pointer _), (4, .int _ _)] ⟨rfl, rfl, trivial⟩ ?_ fun ρh => ?_
  · -- expr.go:131
    refine WC.region <| sv (vmI rfl) <| svs (vge rfl rfl) (fun q1 => ?_) (fun q1 => ?_)
    ·
      exact sv (vmB rfl) <| svg rfl (vmI rfl) <| svg rfl (vle rfl rfl) <| sv (vpkt rfl) <| sv (vaB rfl) <| WL.nil <| WX.mid () trivial ⟨by unfold isDig; exact bI (by omega), trivial⟩ ⟨rfl, rfl, trivial⟩ (fun _ h => Sb.own (by repeat' (first | with_reducible exact Sb.all | exact Sb.nil | (apply Sb.cons; focus (first | ((repeat (first | with_reducible exact Tk.here | with_reducible apply Tk.there)); done) | ((repeat (first | exact Tk.here | apply Tk.there)); done))) | apply Sb.drop)) h)
    ·
      exact sv (vmB rfl) <| sng rfl <| sng rfl <| sv (vpkf rfl) <| sv (vaB rfl) <| WL.nil <| WX.mid () trivial ⟨by unfold isDig; exact bF (by omega), trivial⟩ ⟨rfl, rfl, trivial⟩ (fun _ h => Sb.own (by repeat' (first | with_reducible exact Sb.all | exact Sb.nil | (apply Sb.cons; focus (first | ((repeat (first | with_reducible exact Tk.here | with_reducible apply Tk.there)); done) | ((repeat (first | exact Tk.here | apply Tk.there)); done))) | apply Sb.drop)) h)
  refine WC.iteb rfl (fun h2 => ?_) (fun h2 => ?_)
  · -- then
    exact absurd h2 (by rw [hd]; decide)
  · -- else
    refine WC.cutS [(42, .bool (isLet c))] [(0, .pointer _), (4, .int _ _)] ⟨rfl, rfl, trivial⟩ ?_ fun ρh => ?_
    · -- expr.go:133
      refine WC.region <| sv (vmI rfl) <| svs (vge rfl rfl) (fun q2 => ?_) (fun q2 => ?_)
      ·
        refine sv (vmB rfl) <| svg rfl (vmI rfl) <| svsg rfl (vle rfl rfl) (fun q3 => ?_) (fun q3 => ?_)
        ·
          exact sv (vpkt rfl) <| sv (vmB rfl) <| sng rfl <| sng rfl <| sng rfl <| sng rfl <| sng rfl <| sng rfl <| sv (vpkt rfl) <| sv (vaB rfl) <| WL.nil <| WX.mid () trivial ⟨by unfold isLet; exact bT (by omega), trivial⟩ ⟨rfl, rfl, trivial⟩ (fun _ h => Sb.own (by repeat' (first | with_reducible exact Sb.all | exact Sb.nil | (apply Sb.cons; focus (first | ((repeat (first | with_reducible exact Tk.here | with_reducible apply Tk.there)); done) | ((repeat (first | exact Tk.here | apply Tk.there)); done))) | apply Sb.drop)) h)
        ·
          refine sv (vpkt rfl) <| sv (vmB rfl) <| svg rfl (vmI rfl) <| svsg rfl (vge rfl rfl) (fun q4 => ?_) (fun q4 => ?_)
          ·
            exact svg rfl (vmB rfl) <| svg rfl (vmI rfl) <| svg rfl (vle rfl rfl) <| svg rfl (vpkt rfl) <| sv (vpkf rfl) <| sv (vaB rfl) <| WL.nil <| WX.mid () trivial ⟨by unfold isLet; exact bI (by omega), trivial⟩ ⟨rfl, rfl, trivial⟩ (fun _ h => Sb.own (by repeat' (first | with_reducible exact Sb.all | exact Sb.nil | (apply Sb.cons; focus (first | ((repeat (first | with_reducible exact Tk.here | with_reducible apply Tk.there)); done) | ((repeat (first | exact Tk.here | apply Tk.there)); done))) | apply Sb.drop)) h)
          ·
            exact svg rfl (vmB rfl) <| sng rfl <| sng rfl <| svg rfl (vpkf rfl) <| sv (vpkf rfl) <| sv (vaB rfl) <| WL.nil <| WX.mid () trivial ⟨by unfold isLet; exact bF (by omega), trivial⟩ ⟨rfl, rfl, trivial⟩ (fun _ h => Sb.own (by repeat' (first | with_reducible exact Sb.all | exact Sb.nil | (apply Sb.cons; focus (first | ((repeat (first | with_reducible exact Tk.here | with_reducible apply Tk.there)); done) | ((repeat (first | exact Tk.here | apply Tk.there)); done))) | apply Sb.drop)) h)
      ·
        refine sv (vmB rfl) <| sng rfl <| sng rfl <| sv (vpkf rfl) <| sv (vmB rfl) <| svg rfl (vmI rfl) <| svsg rfl (vge rfl rfl) (fun q5 => ?_) (fun q5 => ?_)
        ·
          exact svg rfl (vmB rfl) <| svg rfl (vmI rfl) <| svg rfl (vle rfl rfl) <| svg rfl (vpkt rfl) <| sv (vpkf rfl) <| sv (vaB rfl) <| WL.nil <| WX.mid () trivial ⟨by unfold isLet; exact bI (by omega), trivial⟩ ⟨rfl, rfl, trivial⟩ (fun _ h => Sb.own (by repeat' (first | with_reducible exact Sb.all | exact Sb.nil | (apply Sb.cons; focus (first | ((repeat (first | with_reducible exact Tk.here | with_reducible apply Tk.there)); done) | ((repeat (first | exact Tk.here | apply Tk.there)); done))) | apply Sb.drop)) h)
        ·
          exact svg rfl (vmB rfl) <| sng rfl <| sng rfl <| svg rfl (vpkf rfl) <| sv (vpkf rfl) <| sv (vaB rfl) <| WL.nil <| WX.mid () trivial ⟨by unfold isLet; exact bF (by omega), trivial⟩ ⟨rfl, rfl, trivial⟩ (fun _ h => Sb.own (by repeat' (first | with_reducible exact Sb.all | exact Sb.nil | (apply Sb.cons; focus (first | ((repeat (first | with_reducible exact Tk.here | with_reducible apply Tk.there)); done) | ((repeat (first | exact Tk.here | apply Tk.there)); done))) | apply Sb.drop)) h)
    refine WC.iteb rfl (fun h3 => ?_) (fun h3 => ?_)
    · -- then
      exact absurd h3 (by rw [ht]; decide)
    · -- else
      refine WC.skip <| WX.blockN <| WX.thenN <| WC.seq <| WC.seq <| WC.region <| sv (vmP rfl) <| clx (by repeat' (first | with_reducible exact Sb.all | exact Sb.nil | (apply Sb.cons; focus (first | ((repeat (first | with_reducible exact Tk.here | with_reducible apply Tk.there)); done) | ((repeat (first | exact Tk.here | apply Tk.there)); done))) | apply Sb.drop)) ((show Fun Tryd.prog w0 _ _ _ (Ret w0 _ (fun _ => .string (sgS neg)) _) from by have h := ex_op (w0 := w0) (A := A) (r := r) (p := p) hl2 hS (sk_cons (sk_head hsk)) hw; cases neg <;> exact h)) ct30 rfl fun r10 hr10 => ?_
      refine alz (cs := [.string ByteArray.empty]) zt9 (by rfl) fun b11 => stp (v := .string _) pl9 sz9 rfl rfl rfl <| WL.nil <| WX.thenN <| WC.seq <| WC.region <| sv (vldc pl9 rfl) <| WL.nil <| WX.thenN <| WC.block <| ?_
      refine WC.cutvS (ι := Unit) (fun i => [(65, .bool true)]) [(0, .pointer _), (5, _), (64, .string _)] (fun i => True) ⟨rfl, rfl, rfl, trivial⟩ ?_ ?_
      · -- up to the join
        refine WC.seq <| WC.region <| sv (veqs rfl rfl) <| sv (vaB rfl) <| WL.nil <| WX.thenN <| ?_
        refine WC.ite rfl (fun h4 => ?_) (fun h4 => ?_)
        · -- then
          exact WC.skip <| WX.mid (()) (trivial) ⟨(bT h4).symm, trivial⟩ ⟨rfl, rfl, rfl, trivial⟩ (fun _ h => Sb.own (by repeat' (first | with_reducible exact Sb.all | exact Sb.nil | (apply Sb.cons; focus (first | ((repeat (first | with_reducible exact Tk.here | with_reducible apply Tk.there)); done) | ((repeat (first | exact Tk.here | apply Tk.there)); done))) | apply Sb.drop)) h)
        · -- else
          exact WC.region <| sv (veqs rfl rfl) <| sv (vaB rfl) <| WL.nil <| WX.mid (()) (trivial) ⟨(bT (by cases neg; rfl; exact absurd rfl h4)).symm, trivial⟩ ⟨rfl, rfl, rfl, trivial⟩ (fun _ h => Sb.own (by repeat' (first | with_reducible exact Sb.all | exact Sb.nil | (apply Sb.cons; focus (first | ((repeat (first | with_reducible exact Tk.here | with_reducible apply Tk.there)); done) | ((repeat (first | exact Tk.here | apply Tk.there)); done))) | apply Sb.drop)) h)
      · -- behind the join
        intro _ _ ρh
        refine WC.iteb rfl (fun h5 => ?_) (fun h5 => ?_)
        · -- then
          refine WC.seq <| WC.seq <| WC.region <| sv (vmP rfl) <| clx (by repeat' (first | with_reducible exact Sb.all | exact Sb.nil | (apply Sb.cons; focus (first | ((repeat (first | with_reducible exact Tk.here | with_reducible apply Tk.there)); done) | ((repeat (first | exact Tk.here | apply Tk.there)); done))) | apply Sb.drop)) (ex_part_ok (k := 1) hl2 hS hp (by simp)) ct32 rfl fun r14 hr14 => ?_
          refine sv (vaP rfl) <| WL.nil <| WX.thenN <| WC.seq <| WC.region <| sv (vmP rfl) <| sv (vpneF Tryd.underlying44 rfl rfl) <| WL.nil <| WX.thenN <| ?_
          refine WC.ff rfl ?_
          refine WC.skip <| WX.thenN <| WC.seq <| WC.region <| sv (vmP rfl) <| clx (by repeat' (first | with_reducible exact Sb.all | exact Sb.nil | (apply Sb.cons; focus (first | ((repeat (first | with_reducible exact Tk.here | with_reducible apply Tk.there)); done) | ((repeat (first | exact Tk.here | apply Tk.there)); done))) | apply Sb.drop)) (hf _) ct29 rfl fun r16 hr16 => ?_
          refine sv vmv <| sv (vex rfl rfl) <| sv (vex rfl rfl) <| sv (vaP rfl) <| sv (vaP rfl) <| WL.nil <| WX.thenN <| WC.seq <| WC.seq <| WC.region <| sv (vmP rfl) <| sv (vpneT Tryd.underlying44 rfl rfl) <| WL.nil <| WX.thenN <| ?_
          refine WC.tt rfl ?_
          exact WC.seq <| WC.region <| sv (vmP rfl) <| sv (vaP rfl) <| sv (vaP rfl) <| WL.nil <| WX.thenN <| WC.ret <| WX.thenR <| WX.blockR <| WX.thenR <| WX.ret2 rfl (r16) (trivial) rfl (fun _ h => Sb.own (by repeat' (first | with_reducible exact Sb.all | exact Sb.nil | (apply Sb.cons; focus (first | ((repeat (first | with_reducible exact Tk.here | with_reducible apply Tk.there)); done) | ((repeat (first | exact Tk.here | apply Tk.there)); done))) | apply Sb.drop)) h)
        · -- else
          exact absurd h5 (by decide)
theorem ex_value_sg_ok {w0 : World} {A : List HProp} {r p : Nat} {S : ByteArray} {l l1 : List UInt8} {c : UInt8} (hl : l <:+ S.data.toList) (hS : S.size ≤ 4611686018427387903) (hsk : sk l = c :: l1) (hl2 : c :: l1 <:+ S.data.toList) (hd : isDig c = false) (ht : isLet c = false) {neg : Bool} {l2 : List UInt8} {x : Tr} {q : Nat} (hw : wd (c :: l1) = if neg then .bin .sub_ else .not_) (hp : p < 64) (hf : ∀ A, Fun Tryd.prog w0 29 [.pointer (some ⟨r, 0, none⟩)] (src r S l1 (p + 1) :: A) (OkR w0 r S A x l2 q)) (hxl : (txt x).length ≤ 100000) (hxs : sizeT x ≤ 100000) :
    Fun Tryd.prog w0 29 [.pointer (some ⟨r, 0, none⟩)] (src r S l p :: A) (OkR w0 r S A (.sg neg x) l2 q) := by
  unfold OkR at hf ⊢
  have hll := suf_len hl2
  simp only [List.length_cons] at hll
  refine Fun.enter Tryd.func29 rfl Tryd.ntmps29 rfl ?_
  refine WC.seq <| WC.region <| sv (vaP rfl) <| sv (vaP rfl) <| WL.nil <| WX.thenN <| WC.seq <| WC.seq <| WC.region <| sv (vmP rfl) <| clx (by repeat' (first | with_reducible exact Sb.all | exact Sb.nil | (apply Sb.cons; focus (first | ((repeat (first | with_reducible exact Tk.here | with_reducible apply Tk.there)); done) | ((repeat (first | exact Tk.here | apply Tk.there)); done))) | apply Sb.drop)) (ex_skip_some hl hS hsk) ct21 rfl fun r1 hr1 => ?_
  refine sv (vnot rfl) <| WL.nil <| WX.thenN <| ?_
  refine WC.ff rfl ?_
  refine WC.skip <| WX.thenN <| WC.seq <| WC.draws rfl (by kernel_rfl) <| qv (vmP rfl) <| qv (vnil rfl) <| qv (vfldpz fl43f0 rfl) <| qv (vldc pl9 rfl) <| qv (vmP rfl) <| qv (vnil rfl) <| qv (vfldp fl43f1 rfl) <| qv (vldc pl3 rfl) <| qv (vixs Tryd.underlying9 rfl rfl (by omega) (show S[((S.size - (c :: l1).length : Nat) : Int).toNat]? = some c from suf_get0 hl2 (by simp))) <| qv (vaI rfl) <| WQ.nil <| WX.thenN <| WC.seq <| WC.block <| ?_
  refine WC.cutS [(31, .bool (isDig c))] [(0, .pointer _), (4, .int _ _)] ⟨rfl, rfl, trivial⟩ ?_ fun ρh => ?_
  · -- expr.go:131
    refine WC.region <| sv (vmI rfl) <| svs (vge rfl rfl) (fun q1 => ?_) (fun q1 => ?_)
    ·
      exact sv (vmB rfl) <| svg rfl (vmI rfl) <| svg rfl (vle rfl rfl) <| sv (vpkt rfl) <| sv (vaB rfl) <| WL.nil <| WX.mid () trivial ⟨by unfold isDig; exact bI (by omega), trivial⟩ ⟨rfl, rfl, trivial⟩ (fun _ h => Sb.own (by repeat' (first | with_reducible exact Sb.all | exact Sb.nil | (apply Sb.cons; focus (first | ((repeat (first | with_reducible exact Tk.here | with_reducible apply Tk.there)); done) | ((repeat (first | exact Tk.here | apply Tk.there)); done))) | apply Sb.drop)) h)
    ·
      exact sv (vmB rfl) <| sng rfl <| sng rfl <| sv (vpkf rfl) <| sv (vaB rfl) <| WL.nil <| WX.mid () trivial ⟨by unfold isDig; exact bF (by omega), trivial⟩ ⟨rfl, rfl, trivial⟩ (fun _ h => Sb.own (by repeat' (first | with_reducible exact Sb.all | exact Sb.nil | (apply Sb.cons; focus (first | ((repeat (first | with_reducible exact Tk.here | with_reducible apply Tk.there)); done) | ((repeat (first | exact Tk.here | apply Tk.there)); done))) | apply Sb.drop)) h)
  refine WC.iteb rfl (fun h2 => ?_) (fun h2 => ?_)
  · -- then
    exact absurd h2 (by rw [hd]; decide)
  · -- else
    refine WC.cutS [(42, .bool (isLet c))] [(0, .pointer _), (4, .int _ _)] ⟨rfl, rfl, trivial⟩ ?_ fun ρh => ?_
    · -- expr.go:133
      refine WC.region <| sv (vmI rfl) <| svs (vge rfl rfl) (fun q2 => ?_) (fun q2 => ?_)
      ·
        refine sv (vmB rfl) <| svg rfl (vmI rfl) <| svsg rfl (vle rfl rfl) (fun q3 => ?_) (fun q3 => ?_)
        ·
          exact sv (vpkt rfl) <| sv (vmB rfl) <| sng rfl <| sng rfl <| sng rfl <| sng rfl <| sng rfl <| sng rfl <| sv (vpkt rfl) <| sv (vaB rfl) <| WL.nil <| WX.mid () trivial ⟨by unfold isLet; exact bT (by omega), trivial⟩ ⟨rfl, rfl, trivial⟩ (fun _ h => Sb.own (by repeat' (first | with_reducible exact Sb.all | exact Sb.nil | (apply Sb.cons; focus (first | ((repeat (first | with_reducible exact Tk.here | with_reducible apply Tk.there)); done) | ((repeat (first | exact Tk.here | apply Tk.there)); done))) | apply Sb.drop)) h)
        ·
          refine sv (vpkt rfl) <| sv (vmB rfl) <| svg rfl (vmI rfl) <| svsg rfl (vge rfl rfl) (fun q4 => ?_) (fun q4 => ?_)
          ·
            exact svg rfl (vmB rfl) <| svg rfl (vmI rfl) <| svg rfl (vle rfl rfl) <| svg rfl (vpkt rfl) <| sv (vpkf rfl) <| sv (vaB rfl) <| WL.nil <| WX.mid () trivial ⟨by unfold isLet; exact bI (by omega), trivial⟩ ⟨rfl, rfl, trivial⟩ (fun _ h => Sb.own (by repeat' (first | with_reducible exact Sb.all | exact Sb.nil | (apply Sb.cons; focus (first | ((repeat (first | with_reducible exact Tk.here | with_reducible apply Tk.there)); done) | ((repeat (first | exact Tk.here | apply Tk.there)); done))) | apply Sb.drop)) h)
          ·
            exact svg rfl (vmB rfl) <| sng rfl <| sng rfl <| svg rfl (vpkf rfl) <| sv (vpkf rfl) <| sv (vaB rfl) <| WL.nil <| WX.mid () trivial ⟨by unfold isLet; exact bF (by omega), trivial⟩ ⟨rfl, rfl, trivial⟩ (fun _ h => Sb.own (by repeat' (first | with_reducible exact Sb.all | exact Sb.nil | (apply Sb.cons; focus (first | ((repeat (first | with_reducible exact Tk.here | with_reducible apply Tk.there)); done) | ((repeat (first | exact Tk.here | apply Tk.there)); done))) | apply Sb.drop)) h)
      ·
        refine sv (vmB rfl) <| sng rfl <| sng rfl <| sv (vpkf rfl) <| sv (vmB rfl) <| svg rfl (vmI rfl) <| svsg rfl (vge rfl rfl) (fun q5 => ?_) (fun q5 => ?_)
        ·
          exact svg rfl (vmB rfl) <| svg rfl (vmI rfl) <| svg rfl (vle rfl rfl) <| svg rfl (vpkt rfl) <| sv (vpkf rfl) <| sv (vaB rfl) <| WL.nil <| WX.mid () trivial ⟨by unfold isLet; exact bI (by omega), trivial⟩ ⟨rfl, rfl, trivial⟩ (fun _ h => Sb.own (by repeat' (first | with_reducible exact Sb.all | exact Sb.nil | (apply Sb.cons; focus (first | ((repeat (first | with_reducible exact Tk.here | with_reducible apply Tk.there)); done) | ((repeat (first | exact Tk.here | apply Tk.there)); done))) | apply Sb.drop)) h)
        ·
          exact svg rfl (vmB rfl) <| sng rfl <| sng rfl <| svg rfl (vpkf rfl) <| sv (vpkf rfl) <| sv (vaB rfl) <| WL.nil <| WX.mid () trivial ⟨by unfold isLet; exact bF (by omega), trivial⟩ ⟨rfl, rfl, trivial⟩ (fun _ h => Sb.own (by repeat' (first | with_reducible exact Sb.all | exact Sb.nil | (apply Sb.cons; focus (first | ((repeat (first | with_reducible exact Tk.here | with_reducible apply Tk.there)); done) | ((repeat (first | exact Tk.here | apply Tk.there)); done))) | apply Sb.drop)) h)
    refine WC.iteb rfl (fun h3 => ?_) (fun h3 => ?_)
    · -- then
      exact absurd h3 (by rw [ht]; decide)
    · -- else
      refine WC.skip <| WX.blockN <| WX.thenN <| WC.seq <| WC.seq <| WC.region <| sv (vmP rfl) <| clx (by repeat' (first | with_reducible exact Sb.all | exact Sb.nil | (apply Sb.cons; focus (first | ((repeat (first | with_reducible exact Tk.here | with_reducible apply Tk.there)); done) | ((repeat (first | exact Tk.here | apply Tk.there)); done))) | apply Sb.drop)) ((show Fun Tryd.prog w0 _ _ _ (Ret w0 _ (fun _ => .string (sgS neg)) _) from by have h := ex_op (w0 := w0) (A := A) (r := r) (p := p) hl2 hS (sk_cons (sk_head hsk)) hw; cases neg <;> exact h)) ct30 rfl fun r10 hr10 => ?_
      refine alz (cs := [.string ByteArray.empty]) zt9 (by rfl) fun b11 => stp (v := .string _) pl9 sz9 rfl rfl rfl <| WL.nil <| WX.thenN <| WC.seq <| WC.region <| sv (vldc pl9 rfl) <| WL.nil <| WX.thenN <| WC.block <| ?_
      refine WC.cutvS (ι := Unit) (fun i => [(65, .bool true)]) [(0, .pointer _), (5, _), (64, .string _)] (fun i => True) ⟨rfl, rfl, rfl, trivial⟩ ?_ ?_
      · -- up to the join
        refine WC.seq <| WC.region <| sv (veqs rfl rfl) <| sv (vaB rfl) <| WL.nil <| WX.thenN <| ?_
        refine WC.ite rfl (fun h4 => ?_) (fun h4 => ?_)
        · -- then
          exact WC.skip <| WX.mid (()) (trivial) ⟨(bT h4).symm, trivial⟩ ⟨rfl, rfl, rfl, trivial⟩ (fun _ h => Sb.own (by repeat' (first | with_reducible exact Sb.all | exact Sb.nil | (apply Sb.cons; focus (first | ((repeat (first | with_reducible exact Tk.here | with_reducible apply Tk.there)); done) | ((repeat (first | exact Tk.here | apply Tk.there)); done))) | apply Sb.drop)) h)
        · -- else
          exact WC.region <| sv (veqs rfl rfl) <| sv (vaB rfl) <| WL.nil <| WX.mid (()) (trivial) ⟨(bT (by cases neg; rfl; exact absurd rfl h4)).symm, trivial⟩ ⟨rfl, rfl, rfl, trivial⟩ (fun _ h => Sb.own (by repeat' (first | with_reducible exact Sb.all | exact Sb.nil | (apply Sb.cons; focus (first | ((repeat (first | with_reducible exact Tk.here | with_reducible apply Tk.there)); done) | ((repeat (first | exact Tk.here | apply Tk.there)); done))) | apply Sb.drop)) h)
      · -- behind the join
        intro _ _ ρh
        refine WC.iteb rfl (fun h5 => ?_) (fun h5 => ?_)
        · -- then
          refine WC.seq <| WC.seq <| WC.region <| sv (vmP rfl) <| clx (by repeat' (first | with_reducible exact Sb.all | exact Sb.nil | (apply Sb.cons; focus (first | ((repeat (first | with_reducible exact Tk.here | with_reducible apply Tk.there)); done) | ((repeat (first | exact Tk.here | apply Tk.there)); done))) | apply Sb.drop)) (ex_part_ok (k := 1) hl2 hS hp (by simp)) ct32 rfl fun r14 hr14 => ?_
          refine sv (vaP rfl) <| WL.nil <| WX.thenN <| WC.seq <| WC.region <| sv (vmP rfl) <| sv (vpneF Tryd.underlying44 rfl rfl) <| WL.nil <| WX.thenN <| ?_
          refine WC.ff rfl ?_
          refine WC.skip <| WX.thenN <| WC.seq <| WC.region <| sv (vmP rfl) <| clx (by repeat' (first | with_reducible exact Sb.all | exact Sb.nil | (apply Sb.cons; focus (first | ((repeat (first | with_reducible exact Tk.here | with_reducible apply Tk.there)); done) | ((repeat (first | exact Tk.here | apply Tk.there)); done))) | apply Sb.drop)) (hf _) ct29 rfl fun r16 hr16 => ?_
          refine sv vmv <| sv (vex rfl rfl) <| sv (vex rfl rfl) <| sv (vaP rfl) <| sv (vaP rfl) <| WL.nil <| WX.thenN <| WC.seq <| WC.seq <| WC.region <| sv (vmP rfl) <| sv (vpneF Tryd.underlying44 rfl rfl) <| WL.nil <| WX.thenN <| ?_
          refine WC.ff rfl ?_
          exact WC.skip <| WX.thenN <| WC.seq <| WC.region <| sv (vmP rfl) <| sv (vnil rfl) <| sv (vfldpz fl61f0 rfl) <| sv (vldc pl33 rfl) <| alz (cs := [.nilFunc]) zt33 (by rfl) fun b19 => stp (v := .func _ _ _) pl33 sz33 rfl rfl rfl <| WL.nil <| WX.thenN <| WC.seq <| WC.plan (.bar [0, 1, 2, 3, 4, 5, 6, 7, 8, 9, 10, 11, 12] 13 (.done [14, 15])) rfl (by kernel_rfl) <| WPl.barC <| dv (fun g => (vfn rfl)) <| dv (fun g => (vldc pl9 rfl)) <| dv (fun g => (vmP rfl)) <| dv (fun g => (vnil rfl)) <| dv (fun g => (vfldp fl61f1 rfl)) <| dv (fun g => (vldc pl9 rfl)) <| dv (fun g => (vw (v' := .string (bs (txt (.sg neg r16.2.tr)))) (vcat rfl rfl (by rw [hr16]; show 1 + (txt x).length ≤ _; omega)) (by rw [sg_txt]))) <| dv (fun g => (vmP rfl)) <| dv (fun g => (vnil rfl)) <| dv (fun g => (vfldp fl61f2 rfl)) <| dv (fun g => (vldc pl3 rfl)) <| dv (fun g => (vw (v' := .int .i64 ((sizeT (.sg neg r16.2.tr) : Nat) : Int)) (vadd rfl rfl (by rw [hr16]; omega)) (by simp [Expr.sizeT]))) <| dv (fun g => (vbd (ps := [(0, .func _ _ _), (1, .string _), (2, .int _ _)]) (cs := [_, _, _]) bt61 zt61 rfl (by rfl))) <| WD.eff rfl <| bxc (v := .agg _) (cs := [_, .string _, .int _ _]) rfl rfl fun b27 => WL.nil <| WX.brT <| WPl.finC <| dv (fun g => (vaP rfl)) <| dv (fun g => (vaP rfl)) <| WD.nil <| WX.thenN <| WC.ret <| WX.blockR <| WX.thenR <| WX.ret2 rfl ((b27, .sg neg b11 b19 r16.2)) (by show Tr.sg neg r16.2.tr = _; rw [hr16]) rfl (fun w h => (sg_close (Sb.own (by repeat' (first | with_reducible exact Sb.all | exact Sb.nil | (apply Sb.cons; focus (first | ((repeat (first | with_reducible exact Tk.here | with_reducible apply Tk.there)); done) | ((repeat (first | exact Tk.here | apply Tk.there)); done))) | apply Sb.drop)) h)).pk1)
        · -- else
          exact absurd h5 (by decide)
theorem ex_value_other {w0 : World} {A : List HProp} {r p : Nat} {S : ByteArray} {l l1 : List UInt8} {c : UInt8} (hl : l <:+ S.data.toList) (hS : S.size ≤ 4611686018427387903) (hsk : sk l = c :: l1) (hl2 : c :: l1 <:+ S.data.toList) (hd : isDig c = false) (ht : isLet c = false) {w : Wd} (hw : wd (c :: l1) = w) (h1 : w.bytes ≠ [45]) (h2 : w.bytes ≠ [33]) (h3 : w.bytes ≠ [40]) :
    Fun Tryd.prog w0 29 [.pointer (some ⟨r, 0, none⟩)] (src r S l p :: A) (BadR w0 S A (c :: l1) 40) := by
  unfold BadR
  have hll := suf_len hl2
  simp only [List.length_cons] at hll
  refine Fun.enter Tryd.func29 rfl Tryd.ntmps29 rfl ?_
  refine WC.seq <| WC.region <| sv (vaP rfl) <| sv (vaP rfl) <| WL.nil <| WX.thenN <| WC.seq <| WC.seq <| WC.region <| sv (vmP rfl) <| clx (by repeat' (first | with_reducible exact Sb.all | exact Sb.nil | (apply Sb.cons; focus (first | ((repeat (first | with_reducible exact Tk.here | with_reducible apply Tk.there)); done) | ((repeat (first | exact Tk.here | apply Tk.there)); done))) | apply Sb.drop)) (ex_skip_some hl hS hsk) ct21 rfl fun r1 hr1 => ?_
  refine sv (vnot rfl) <| WL.nil <| WX.thenN <| ?_
  refine WC.ff rfl ?_
  refine WC.skip <| WX.thenN <| WC.seq <| WC.draws rfl (by kernel_rfl) <| qv (vmP rfl) <| qv (vnil rfl) <| qv (vfldpz fl43f0 rfl) <| qv (vldc pl9 rfl) <| qv (vmP rfl) <| qv (vnil rfl) <| qv (vfldp fl43f1 rfl) <| qv (vldc pl3 rfl) <| qv (vixs Tryd.underlying9 rfl rfl (by omega) (show S[((S.size - (c :: l1).length : Nat) : Int).toNat]? = some c from suf_get0 hl2 (by simp))) <| qv (vaI rfl) <| WQ.nil <| WX.thenN <| WC.seq <| WC.block <| ?_
  refine WC.cutS [(31, .bool (isDig c))] [(0, .pointer _), (4, .int _ _)] ⟨rfl, rfl, trivial⟩ ?_ fun ρh => ?_
  · -- expr.go:131
    refine WC.region <| sv (vmI rfl) <| svs (vge rfl rfl) (fun q1 => ?_) (fun q1 => ?_)
    ·
      exact sv (vmB rfl) <| svg rfl (vmI rfl) <| svg rfl (vle rfl rfl) <| sv (vpkt rfl) <| sv (vaB rfl) <| WL.nil <| WX.mid () trivial ⟨by unfold isDig; exact bI (by omega), trivial⟩ ⟨rfl, rfl, trivial⟩ (fun _ h => Sb.own (by repeat' (first | with_reducible exact Sb.all | exact Sb.nil | (apply Sb.cons; focus (first | ((repeat (first | with_reducible exact Tk.here | with_reducible apply Tk.there)); done) | ((repeat (first | exact Tk.here | apply Tk.there)); done))) | apply Sb.drop)) h)
    ·
      exact sv (vmB rfl) <| sng rfl <| sng rfl <| sv (vpkf rfl) <| sv (vaB rfl) <| WL.nil <| WX.mid () trivial ⟨by unfold isDig; exact bF (by omega), trivial⟩ ⟨rfl, rfl, trivial⟩ (fun _ h => Sb.own (by repeat' (first | with_reducible exact Sb.all | exact Sb.nil | (apply Sb.cons; focus (first | ((repeat (first | with_reducible exact Tk.here | with_reducible apply Tk.there)); done) | ((repeat (first | exact Tk.here | apply Tk.there)); done))) | apply Sb.drop)) h)
  refine WC.iteb rfl (fun h2 => ?_) (fun h2 => ?_)
  · -- then
    exact absurd h2 (by rw [hd]; decide)
  · -- else
    refine WC.cutS [(42, .bool (isLet c))] [(0, .pointer _), (4, .int _ _)] ⟨rfl, rfl, trivial⟩ ?_ fun ρh => ?_
    · -- expr.go:133
      refine WC.region <| sv (vmI rfl) <| svs (vge rfl rfl) (fun q2 => ?_) (fun q2 => ?_)
      ·
        refine sv (vmB rfl) <| svg rfl (vmI rfl) <| svsg rfl (vle rfl rfl) (fun q3 => ?_) (fun q3 => ?_)
        ·
          exact sv (vpkt rfl) <| sv (vmB rfl) <| sng rfl <| sng rfl <| sng rfl <| sng rfl <| sng rfl <| sng rfl <| sv (vpkt rfl) <| sv (vaB rfl) <| WL.nil <| WX.mid () trivial ⟨by unfold isLet; exact bT (by omega), trivial⟩ ⟨rfl, rfl, trivial⟩ (fun _ h => Sb.own (by repeat' (first | with_reducible exact Sb.all | exact Sb.nil | (apply Sb.cons; focus (first | ((repeat (first | with_reducible exact Tk.here | with_reducible apply Tk.there)); done) | ((repeat (first | exact Tk.here | apply Tk.there)); done))) | apply Sb.drop)) h)
        ·
          refine sv (vpkt rfl) <| sv (vmB rfl) <| svg rfl (vmI rfl) <| svsg rfl (vge rfl rfl) (fun q4 => ?_) (fun q4 => ?_)
          ·
            exact svg rfl (vmB rfl) <| svg rfl (vmI rfl) <| svg rfl (vle rfl rfl) <| svg rfl (vpkt rfl) <| sv (vpkf rfl) <| sv (vaB rfl) <| WL.nil <| WX.mid () trivial ⟨by unfold isLet; exact bI (by omega), trivial⟩ ⟨rfl, rfl, trivial⟩ (fun _ h => Sb.own (by repeat' (first | with_reducible exact Sb.all | exact Sb.nil | (apply Sb.cons; focus (first | ((repeat (first | with_reducible exact Tk.here | with_reducible apply Tk.there)); done) | ((repeat (first | exact Tk.here | apply Tk.there)); done))) | apply Sb.drop)) h)
          ·
            exact svg rfl (vmB rfl) <| sng rfl <| sng rfl <| svg rfl (vpkf rfl) <| sv (vpkf rfl) <| sv (vaB rfl) <| WL.nil <| WX.mid () trivial ⟨by unfold isLet; exact bF (by omega), trivial⟩ ⟨rfl, rfl, trivial⟩ (fun _ h => Sb.own (by repeat' (first | with_reducible exact Sb.all | exact Sb.nil | (apply Sb.cons; focus (first | ((repeat (first | with_reducible exact Tk.here | with_reducible apply Tk.there)); done) | ((repeat (first | exact Tk.here | apply Tk.there)); done))) | apply Sb.drop)) h)
      ·
        refine sv (vmB rfl) <| sng rfl <| sng rfl <| sv (vpkf rfl) <| sv (vmB rfl) <| svg rfl (vmI rfl) <| svsg rfl (vge rfl rfl) (fun q5 => ?_) (fun q5 => ?_)
        ·
          exact svg rfl (vmB rfl) <| svg rfl (vmI rfl) <| svg rfl (vle rfl rfl) <| svg rfl (vpkt rfl) <| sv (vpkf rfl) <| sv (vaB rfl) <| WL.nil <| WX.mid () trivial ⟨by unfold isLet; exact bI (by omega), trivial⟩ ⟨rfl, rfl, trivial⟩ (fun _ h => Sb.own (by repeat' (first | with_reducible exact Sb.all | exact Sb.nil | (apply Sb.cons; focus (first | ((repeat (first | with_reducible exact Tk.here | with_reducible apply Tk.there)); done) | ((repeat (first | exact Tk.here | apply Tk.there)); done))) | apply Sb.drop)) h)
        ·
          exact svg rfl (vmB rfl) <| sng rfl <| sng rfl <| svg rfl (vpkf rfl) <| sv (vpkf rfl) <| sv (vaB rfl) <| WL.nil <| WX.mid () trivial ⟨by unfold isLet; exact bF (by omega), trivial⟩ ⟨rfl, rfl, trivial⟩ (fun _ h => Sb.own (by repeat' (first | with_reducible exact Sb.all | exact Sb.nil | (apply Sb.cons; focus (first | ((repeat (first | with_reducible exact Tk.here | with_reducible apply Tk.there)); done) | ((repeat (first | exact Tk.here | apply Tk.there)); done))) | apply Sb.drop)) h)
    refine WC.iteb rfl (fun h3 => ?_) (fun h3 => ?_)
    · -- then
      exact absurd h3 (by rw [ht]; decide)
    · -- else
      refine WC.skip <| WX.blockN <| WX.thenN <| WC.seq <| WC.seq <| WC.region <| sv (vmP rfl) <| clx (by repeat' (first | with_reducible exact Sb.all | exact Sb.nil | (apply Sb.cons; focus (first | ((repeat (first | with_reducible exact Tk.here | with_reducible apply Tk.there)); done) | ((repeat (first | exact Tk.here | apply Tk.there)); done))) | apply Sb.drop)) (ex_op hl2 hS (sk_cons (sk_head hsk)) hw) ct30 rfl fun r10 hr10 => ?_
      refine alz (cs := [.string ByteArray.empty]) zt9 (by rfl) fun b11 => stp (v := .string _) pl9 sz9 rfl rfl rfl <| WL.nil <| WX.thenN <| WC.seq <| WC.region <| sv (vldc pl9 rfl) <| WL.nil <| WX.thenN <| WC.block <| ?_
      refine WC.cutvS (ι := Unit) (fun i => [(65, .bool false)]) [(0, .pointer _), (5, _), (64, .string _)] (fun i => True) ⟨rfl, rfl, rfl, trivial⟩ ?_ ?_
      · -- up to the join
        refine WC.seq <| WC.region <| sv (veqs rfl rfl) <| sv (vaB rfl) <| WL.nil <| WX.thenN <| ?_
        refine WC.ite rfl (fun h4 => ?_) (fun h4 => ?_)
        · -- then
          exact WC.skip <| WX.mid (()) (trivial) ⟨absurd (bs_inj (a := w.bytes) (b := [45]) |>.1 h4) (by assumption), trivial⟩ ⟨rfl, rfl, rfl, trivial⟩ (fun _ h => Sb.own (by repeat' (first | with_reducible exact Sb.all | exact Sb.nil | (apply Sb.cons; focus (first | ((repeat (first | with_reducible exact Tk.here | with_reducible apply Tk.there)); done) | ((repeat (first | exact Tk.here | apply Tk.there)); done))) | apply Sb.drop)) h)
        · -- else
          exact WC.region <| sv (veqs rfl rfl) <| sv (vaB rfl) <| WL.nil <| WX.mid (()) (trivial) ⟨(bF (fun e => absurd (bs_inj (a := w.bytes) (b := [33]) |>.1 e) (by assumption))).symm, trivial⟩ ⟨rfl, rfl, rfl, trivial⟩ (fun _ h => Sb.own (by repeat' (first | with_reducible exact Sb.all | exact Sb.nil | (apply Sb.cons; focus (first | ((repeat (first | with_reducible exact Tk.here | with_reducible apply Tk.there)); done) | ((repeat (first | exact Tk.here | apply Tk.there)); done))) | apply Sb.drop)) h)
      · -- behind the join
        intro _ _ ρh
        refine WC.iteb rfl (fun h5 => ?_) (fun h5 => ?_)
        · -- then
          exact absurd h5 (by decide)
        · -- else
          refine WC.seq <| WC.region <| sv (veqs rfl rfl) <| sv (vaB rfl) <| WL.nil <| WX.thenN <| ?_
          refine WC.ite rfl (fun h6 => ?_) (fun h6 => ?_)
          · -- then
            exact absurd (bs_inj (a := w.bytes) (b := [40]) |>.1 h6) (by assumption)
          · -- else
            exact WC.skip <| WX.blockN <| WX.thenN <| WC.seq <| WC.plan (.pre [0, 1, 2, 3, 4] (.one [6] 5 (.done [7]))) rfl (by kernel_rfl) <| WPl.preC <| dv (fun g => (vmP rfl)) <| dv (fun g => (vnil rfl)) <| dv (fun g => (vfldp fl43f1 rfl)) <| dv (fun g => (vldc pl3 rfl)) <| dv (fun g => (vbd (ps := [(0, .int _ _), (1, (.int .i64 40))]) (cs := [_, _]) bt48 zt48 rfl (by rfl))) <| WD.nil <| WPl.oneE (fun g => by infer_instance) <| dv (fun g => (vaP rfl)) <| WD.eff rfl <| bxc (v := .agg _) (cs := [.int _ _, .int _ _]) rfl rfl fun b46 => WL.nil <| WX.br <| WPl.finC <| dv (fun g => (vaP rfl)) <| WD.nil <| WX.thenN <| WC.ret <| WX.ret2 rfl (b46) (trivial) rfl (fun w h => Sb.own (by repeat' (first | with_reducible exact Sb.all | exact Sb.nil | (apply Sb.cons; focus (first | ((repeat (first | with_reducible exact Tk.here | with_reducible apply Tk.there)); done) | ((repeat (first | exact Tk.here | apply Tk.there)); done))) | apply Sb.drop)) h)
theorem ex_value_lp_bad {w0 : World} {A : List HProp} {r p : Nat} {S : ByteArray} {l l1 : List UInt8} {c : UInt8} (hl : l <:+ S.data.toList) (hS : S.size ≤ 4611686018427387903) (hsk : sk l = c :: l1) (hl2 : c :: l1 <:+ S.data.toList) (hd : isDig c = false) (ht : isLet c = false) (hw : wd (c :: l1) = .lp) {l2 : List UInt8} {e : Int} (hf : ∀ A, Fun Tryd.prog w0 20 [.pointer (some ⟨r, 0, none⟩), .int .i64 1] (src r S l1 p :: A) (BadR w0 S A l2 e)) :
    Fun Tryd.prog w0 29 [.pointer (some ⟨r, 0, none⟩)] (src r S l p :: A) (BadR w0 S A l2 e) := by
  unfold BadR at hf ⊢
  have hll := suf_len hl2
  simp only [List.length_cons] at hll
  refine Fun.enter Tryd.func29 rfl Tryd.ntmps29 rfl ?_
  refine WC.seq <| WC.region <| sv (vaP rfl) <| sv (vaP rfl) <| WL.nil <| WX.thenN <| WC.seq <| WC.seq <| WC.region <| sv (vmP rfl) <| clx (by repeat' (first | with_reducible exact Sb.all | exact Sb.nil | (apply Sb.cons; focus (first | ((repeat (first | with_reducible exact Tk.here | with_reducible apply Tk.there)); done) | ((repeat (first | exact Tk.here | apply Tk.there)); done))) | apply Sb.drop)) (ex_skip_some hl hS hsk) ct21 rfl fun r1 hr1 => ?_
  refine sv (vnot rfl) <| WL.nil <| WX.thenN <| ?_
  refine WC.ff rfl ?_
  refine WC.skip <| WX.thenN <| WC.seq <| WC.draws rfl (by kernel_rfl) <| qv (vmP rfl) <| qv (vnil rfl) <| qv (vfldpz fl43f0 rfl) <| qv (vldc pl9 rfl) <| qv (vmP rfl) <| qv (vnil rfl) <| qv (vfldp fl43f1 rfl) <| qv (vldc pl3 rfl) <| qv (vixs Tryd.underlying9 rfl rfl (by omega) (show S[((S.size - (c :: l1).length : Nat) : Int).toNat]? = some c from suf_get0 hl2 (by simp))) <| qv (vaI rfl) <| WQ.nil <| WX.thenN <| WC.seq <| WC.block <| ?_
  refine WC.cutS [(31, .bool (isDig c))] [(0, .pointer _), (4, .int _ _)] ⟨rfl, rfl, trivial⟩ ?_ fun ρh => ?_
  · -- expr.go:131
    refine WC.region <| sv (vmI rfl) <| svs (vge rfl rfl) (fun q1 => ?_) (fun q1 => ?_)
    ·
      exact sv (vmB rfl) <| svg rfl (vmI rfl) <| svg rfl (vle rfl rfl) <| sv (vpkt rfl) <| sv (vaB rfl) <| WL.nil <| WX.mid () trivial ⟨by unfold isDig; exact bI (by omega), trivial⟩ ⟨rfl, rfl, trivial⟩ (fun _ h => Sb.own (by repeat' (first | with_reducible exact Sb.all | exact Sb.nil | (apply Sb.cons; focus (first | ((repeat (first | with_reducible exact Tk.here | with_reducible apply Tk.there)); done) | ((repeat (first | exact Tk.here | apply Tk.there)); done))) | apply Sb.drop)) h)
    ·
      exact sv (vmB rfl) <| sng rfl <| sng rfl <| sv (vpkf rfl) <| sv (vaB rfl) <| WL.nil <| WX.mid () trivial ⟨by unfold isDig; exact bF (by omega), trivial⟩ ⟨rfl, rfl, trivial⟩ (fun _ h => Sb.own (by repeat' (first | with_reducible exact Sb.all | exact Sb.nil | (apply Sb.cons; focus (first | ((repeat (first | with_reducible exact Tk.here | with_reducible apply Tk.there)); done) | ((repeat (first | exact Tk.here | apply Tk.there)); done))) | apply Sb.drop)) h)
  refine WC.iteb rfl (fun h2 => ?_) (fun h2 => ?_)
  · -- then
    exact absurd h2 (by rw [hd]; decide)
  · -- else
    refine WC.cutS [(42, .bool (isLet c))] [(0, .pointer _), (4, .int _ _)] ⟨rfl, rfl, trivial⟩ ?_ fun ρh => ?_
    · -- expr.go:133
      refine WC.region <| sv (vmI rfl) <| svs (vge rfl rfl) (fun q2 => ?_) (fun q2 => ?_)
      ·
        refine sv (vmB rfl) <| svg rfl (vmI rfl) <| svsg rfl (vle rfl rfl) (fun q3 => ?_) (fun q3 => ?_)
        ·
          exact sv (vpkt rfl) <| sv (vmB rfl) <| sng rfl <| sng rfl <| sng rfl <| sng rfl <| sng rfl <| sng rfl <| sv (vpkt rfl) <| sv (vaB rfl) <| WL.nil <| WX.mid () trivial ⟨by unfold isLet; exact bT (by omega), trivial⟩ ⟨rfl, rfl, trivial⟩ (fun _ h => Sb.own (by repeat' (first | with_reducible exact Sb.all | exact Sb.nil | (apply Sb.cons; focus (first | ((repeat (first | with_reducible exact Tk.here | with_reducible apply Tk.there)); done) | ((repeat (first | exact Tk.here | apply Tk.there)); done))) | apply Sb.drop)) h)
        ·
          refine sv (vpkt rfl) <| sv (vmB rfl) <| svg rfl (vmI rfl) <| svsg rfl (vge rfl rfl) (fun q4 => ?_) (fun q4 => ?_)
          ·
            exact svg rfl (vmB rfl) <| svg rfl (vmI rfl) <| svg rfl (vle rfl rfl) <| svg rfl (vpkt rfl) <| sv (vpkf rfl) <| sv (vaB rfl) <| WL.nil <| WX.mid () trivial ⟨by unfold isLet; exact bI (by omega), trivial⟩ ⟨rfl, rfl, trivial⟩ (fun _ h => Sb.own (by repeat' (first | with_reducible exact Sb.all | exact Sb.nil | (apply Sb.cons; focus (first | ((repeat (first | with_reducible exact Tk.here | with_reducible apply Tk.there)); done) | ((repeat (first | exact Tk.here | apply Tk.there)); done))) | apply Sb.drop)) h)
          ·
            exact svg rfl (vmB rfl) <| sng rfl <| sng rfl <| svg rfl (vpkf rfl) <| sv (vpkf rfl) <| sv (vaB rfl) <| WL.nil <| WX.mid () trivial ⟨by unfold isLet; exact bF (by omega), trivial⟩ ⟨rfl, rfl, trivial⟩ (fun _ h => Sb.own (by repeat' (first | with_reducible exact Sb.all | exact Sb.nil | (apply Sb.cons; focus (first | ((repeat (first | with_reducible exact Tk.here | with_reducible apply Tk.there)); done) | ((repeat (first | exact Tk.here | apply Tk.there)); done))) | apply Sb.drop)) h)
      ·
        refine sv (vmB rfl) <| sng rfl <| sng rfl <| sv (vpkf rfl) <| sv (vmB rfl) <| svg rfl (vmI rfl) <| svsg rfl (vge rfl rfl) (fun q5 => ?_) (fun q5 => ?_)
        ·
          exact svg rfl (vmB rfl) <| svg rfl (vmI rfl) <| svg rfl (vle rfl rfl) <| svg rfl (vpkt rfl) <| sv (vpkf rfl) <| sv (vaB rfl) <| WL.nil <| WX.mid () trivial ⟨by unfold isLet; exact bI (by omega), trivial⟩ ⟨rfl, rfl, trivial⟩ (fun _ h => Sb.own (by repeat' (first | with_reducible exact Sb.all | exact Sb.nil | (apply Sb.cons; focus (first | ((repeat (first | with_reducible exact Tk.here | with_reducible apply Tk.there)); done) | ((repeat (first | exact Tk.here | apply Tk.there)); done))) | apply Sb.drop)) h)
        ·
          exact svg rfl (vmB rfl) <| sng rfl <| sng rfl <| svg rfl (vpkf rfl) <| sv (vpkf rfl) <| sv (vaB rfl) <| WL.nil <| WX.mid () trivial ⟨by unfold isLet; exact bF (by omega), trivial⟩ ⟨rfl, rfl, trivial⟩ (fun _ h => Sb.own (by repeat' (first | with_reducible exact Sb.all | exact Sb.nil | (apply Sb.cons; focus (first | ((repeat (first | with_reducible exact Tk.here | with_reducible apply Tk.there)); done) | ((repeat (first | exact Tk.here | apply Tk.there)); done))) | apply Sb.drop)) h)
    refine WC.iteb rfl (fun h3 => ?_) (fun h3 => ?_)
    · -- then
      exact absurd h3 (by rw [ht]; decide)
    · -- else
      refine WC.skip <| WX.blockN <| WX.thenN <| WC.seq <| WC.seq <| WC.region <| sv (vmP rfl) <| clx (by repeat' (first | with_reducible exact Sb.all | exact Sb.nil | (apply Sb.cons; focus (first | ((repeat (first | with_reducible exact Tk.here | with_reducible apply Tk.there)); done) | ((repeat (first | exact Tk.here | apply Tk.there)); done))) | apply Sb.drop)) (ex_op hl2 hS (sk_cons (sk_head hsk)) hw) ct30 rfl fun r10 hr10 => ?_
      refine alz (cs := [.string ByteArray.empty]) zt9 (by rfl) fun b11 => stp (v := .string _) pl9 sz9 rfl rfl rfl <| WL.nil <| WX.thenN <| WC.seq <| WC.region <| sv (vldc pl9 rfl) <| WL.nil <| WX.thenN <| WC.block <| ?_
      refine WC.cutvS (ι := Unit) (fun i => [(65, .bool false)]) [(0, .pointer _), (5, _), (64, .string _)] (fun i => True) ⟨rfl, rfl, rfl, trivial⟩ ?_ ?_
      · -- up to the join
        refine WC.seq <| WC.region <| sv (veqs rfl rfl) <| sv (vaB rfl) <| WL.nil <| WX.thenN <| ?_
        refine WC.ite rfl (fun h4 => ?_) (fun h4 => ?_)
        · -- then
          exact WC.skip <| WX.mid (()) (trivial) ⟨absurd (h4) (by decide), trivial⟩ ⟨rfl, rfl, rfl, trivial⟩ (fun _ h => Sb.own (by repeat' (first | with_reducible exact Sb.all | exact Sb.nil | (apply Sb.cons; focus (first | ((repeat (first | with_reducible exact Tk.here | with_reducible apply Tk.there)); done) | ((repeat (first | exact Tk.here | apply Tk.there)); done))) | apply Sb.drop)) h)
        · -- else
          exact WC.region <| sv (veqs rfl rfl) <| sv (vaB rfl) <| WL.nil <| WX.mid (()) (trivial) ⟨(bF (by decide)).symm, trivial⟩ ⟨rfl, rfl, rfl, trivial⟩ (fun _ h => Sb.own (by repeat' (first | with_reducible exact Sb.all | exact Sb.nil | (apply Sb.cons; focus (first | ((repeat (first | with_reducible exact Tk.here | with_reducible apply Tk.there)); done) | ((repeat (first | exact Tk.here | apply Tk.there)); done))) | apply Sb.drop)) h)
      · -- behind the join
        intro _ _ ρh
        refine WC.iteb rfl (fun h5 => ?_) (fun h5 => ?_)
        · -- then
          exact absurd h5 (by decide)
        · -- else
          refine WC.seq <| WC.region <| sv (veqs rfl rfl) <| sv (vaB rfl) <| WL.nil <| WX.thenN <| ?_
          refine WC.ite rfl (fun h6 => ?_) (fun h6 => ?_)
          · -- then
            refine WC.seq <| WC.region <| sv (vmP rfl) <| sv (vnil rfl) <| sv (vfldp fl43f1 rfl) <| sv (vldc pl3 rfl) <| sv (vw (v' := .int .i64 ((S.size - l1.length : Nat) : Int)) (vadd rfl rfl (by omega)) (by congr 1; simp only [List.length_cons]; omega)) <| sv (vnil rfl) <| sv (vfldp fl43f1 rfl) <| stp (v := .int _ _) pl3 sz3 rfl rfl rfl <| WL.nil <| WX.thenN <| WC.seq <| WC.region <| sv (vmP rfl) <| clx (by repeat' (first | with_reducible exact Sb.all | exact Sb.nil | (apply Sb.cons; focus (first | ((repeat (first | with_reducible exact Tk.here | with_reducible apply Tk.there)); done) | ((repeat (first | exact Tk.here | apply Tk.there)); done))) | apply Sb.drop)) (hf _) ct20 rfl fun r31 hr31 => ?_
            refine sv vmv <| sv (vex rfl rfl) <| sv (vex rfl rfl) <| sv (vaP rfl) <| sv (vaP rfl) <| WL.nil <| WX.thenN <| WC.seq <| WC.seq <| WC.region <| sv (vmP rfl) <| sv (vpneT Tryd.underlying44 rfl rfl) <| WL.nil <| WX.thenN <| ?_
            refine WC.tt rfl ?_
            exact WC.seq <| WC.region <| sv (vmP rfl) <| sv (vaP rfl) <| sv (vaP rfl) <| WL.nil <| WX.thenN <| WC.ret <| WX.thenR <| WX.blockR <| WX.thenR <| WX.ret2 rfl (r31) (trivial) rfl (fun _ h => Sb.own (by repeat' (first | with_reducible exact Sb.all | exact Sb.nil | (apply Sb.cons; focus (first | ((repeat (first | with_reducible exact Tk.here | with_reducible apply Tk.there)); done) | ((repeat (first | exact Tk.here | apply Tk.there)); done))) | apply Sb.drop)) h)
          · -- else
            exact absurd rfl h6
theorem ex_value_lp_none {w0 : World} {A : List HProp} {r p : Nat} {S : ByteArray} {l l1 : List UInt8} {c : UInt8} (hl : l <:+ S.data.toList) (hS : S.size ≤ 4611686018427387903) (hsk : sk l = c :: l1) (hl2 : c :: l1 <:+ S.data.toList) (hd : isDig c = false) (ht : isLet c = false) (hw : wd (c :: l1) = .lp) {l2 : List UInt8} {x : Tr} {q : Nat} (hf : ∀ A, Fun Tryd.prog w0 20 [.pointer (some ⟨r, 0, none⟩), .int .i64 1] (src r S l1 p :: A) (OkR w0 r S A x l2 q)) (hl3 : l2 <:+ S.data.toList) (hs2 : sk l2 = []) :
    Fun Tryd.prog w0 29 [.pointer (some ⟨r, 0, none⟩)] (src r S l p :: A) (BadR w0 S A [] 41) := by
  unfold OkR at hf
  unfold BadR
  have hll := suf_len hl2
  simp only [List.length_cons] at hll
  refine Fun.enter Tryd.func29 rfl Tryd.ntmps29 rfl ?_
  refine WC.seq <| WC.region <| sv (vaP rfl) <| sv (vaP rfl) <| WL.nil <| WX.thenN <| WC.seq <| WC.seq <| WC.region <| sv (vmP rfl) <| clx (by repeat' (first | with_reducible exact Sb.all | exact Sb.nil | (apply Sb.cons; focus (first | ((repeat (first | with_reducible exact Tk.here | with_reducible apply Tk.there)); done) | ((repeat (first | exact Tk.here | apply Tk.there)); done))) | apply Sb.drop)) (ex_skip_some hl hS hsk) ct21 rfl fun r1 hr1 => ?_
  refine sv (vnot rfl) <| WL.nil <| WX.thenN <| ?_
  refine WC.ff rfl ?_
  refine WC.skip <| WX.thenN <| WC.seq <| WC.draws rfl (by kernel_rfl) <| qv (vmP rfl) <| qv (vnil rfl) <| qv (vfldpz fl43f0 rfl) <| qv (vldc pl9 rfl) <| qv (vmP rfl) <| qv (vnil rfl) <| qv (vfldp fl43f1 rfl) <| qv (vldc pl3 rfl) <| qv (vixs Tryd.underlying9 rfl rfl (by omega) (show S[((S.size - (c :: l1).length : Nat) : Int).toNat]? = some c from suf_get0 hl2 (by simp))) <| qv (vaI rfl) <| WQ.nil <| WX.thenN <| WC.seq <| WC.block <| ?_
  refine WC.cutS [(31, .bool (isDig c))] [(0, .pointer _), (4, .int _ _)] ⟨rfl, rfl, trivial⟩ ?_ fun ρh => ?_
  · -- expr.go:131
    refine WC.region <| sv (vmI rfl) <| svs (vge rfl rfl) (fun q1 => ?_) (fun q1 => ?_)
    ·
      exact sv (vmB rfl) <| svg rfl (vmI rfl) <| svg rfl (vle rfl rfl) <| sv (vpkt rfl) <| sv (vaB rfl) <| WL.nil <| WX.mid () trivial ⟨by unfold isDig; exact bI (by omega), trivial⟩ ⟨rfl, rfl, trivial⟩ (fun _ h => Sb.own (by repeat' (first | with_reducible exact Sb.all | exact Sb.nil | (apply Sb.cons; focus (first | ((repeat (first | with_reducible exact Tk.here | with_reducible apply Tk.there)); done) | ((repeat (first | exact Tk.here | apply Tk.there)); done))) | apply Sb.drop)) h)
    ·
      exact sv (vmB rfl) <| sng rfl <| sng rfl <| sv (vpkf rfl) <| sv (vaB rfl) <| WL.nil <| WX.mid () trivial ⟨by unfold isDig; exact bF (by omega), trivial⟩ ⟨rfl, rfl, trivial⟩ (fun _ h => Sb.own (by repeat' (first | with_reducible exact Sb.all | exact Sb.nil | (apply Sb.cons; focus (first | ((repeat (first | with_reducible exact Tk.here | with_reducible apply Tk.there)); done) | ((repeat (first | exact Tk.here | apply Tk.there)); done))) | apply Sb.drop)) h)
  refine WC.iteb rfl (fun h2 => ?_) (fun h2 => ?_)
  · -- then
    exact absurd h2 (by rw [hd]; decide)
  · -- else
    refine WC.cutS [(42, .bool (isLet c))] [(0, .pointer _), (4, .int _ _)] ⟨rfl, rfl, trivial⟩ ?_ fun ρh => ?_
    · -- expr.go:133
      refine WC.region <| sv (vmI rfl) <| svs (vge rfl rfl) (fun q2 => ?_) (fun q2 => ?_)
      ·
        refine sv (vmB rfl) <| svg rfl (vmI rfl) <| svsg rfl (vle rfl rfl) (fun q3 => ?_) (fun q3 => ?_)
        ·
          exact sv (vpkt rfl) <| sv (vmB rfl) <| sng rfl <| sng rfl <| sng rfl <| sng rfl <| sng rfl <| sng rfl <| sv (vpkt rfl) <| sv (vaB rfl) <| WL.nil <| WX.mid () trivial ⟨by unfold isLet; exact bT (by omega), trivial⟩ ⟨rfl, rfl, trivial⟩ (fun _ h => Sb.own (by repeat' (first | with_reducible exact Sb.all | exact Sb.nil | (apply Sb.cons; focus (first | ((repeat (first | with_reducible exact Tk.here | with_reducible apply Tk.there)); done) | ((repeat (first | exact Tk.here | apply Tk.there)); done))) | apply Sb.drop)) h)
        ·
          refine sv (vpkt rfl) <| sv (vmB rfl) <| svg rfl (vmI rfl) <| svsg rfl (vge rfl rfl) (fun q4 => ?_) (fun q4 => ?_)
          ·
            exact svg rfl (vmB rfl) <| svg rfl (vmI rfl) <| svg rfl (vle rfl rfl) <| svg rfl (vpkt rfl) <| sv (vpkf rfl) <| sv (vaB rfl) <| WL.nil <| WX.mid () trivial ⟨by unfold isLet; exact bI (by omega), trivial⟩ ⟨rfl, rfl, trivial⟩ (fun _ h => Sb.own (by repeat' (first | with_reducible exact Sb.all | exact Sb.nil | (apply Sb.cons; focus (first | ((repeat (first | with_reducible exact Tk.here | with_reducible apply Tk.there)); done) | ((repeat (first | exact Tk.here | apply Tk.there)); done))) | apply Sb.drop)) h)
          ·
            exact svg rfl (vmB rfl) <| sng rfl <| sng rfl <| svg rfl (vpkf rfl) <| sv (vpkf rfl) <| sv (vaB rfl) <| WL.nil <| WX.mid () trivial ⟨by unfold isLet; exact bF (by omega), trivial⟩ ⟨rfl, rfl, trivial⟩ (fun _ h => Sb.own (by repeat' (first | with_reducible exact Sb.all | exact Sb.nil | (apply Sb.cons; focus (first | ((repeat (first | with_reducible exact Tk.here | with_reducible apply Tk.there)); done) | ((repeat (first | exact Tk.here | apply Tk.there)); done))) | apply Sb.drop)) h)
      ·
        refine sv (vmB rfl) <| sng rfl <| sng rfl <| sv (vpkf rfl) <| sv (vmB rfl) <| svg rfl (vmI rfl) <| svsg rfl (vge rfl rfl) (fun q5 => ?_) (fun q5 => ?_)
        ·
          exact svg rfl (vmB rfl) <| svg rfl (vmI rfl) <| svg rfl (vle rfl rfl) <| svg rfl (vpkt rfl) <| sv (vpkf rfl) <| sv (vaB rfl) <| WL.nil <| WX.mid () trivial ⟨by unfold isLet; exact bI (by omega), trivial⟩ ⟨rfl, rfl, trivial⟩ (fun _ h => Sb.own (by repeat' (first | with_reducible exact Sb.all | exact Sb.nil | (apply Sb.cons; focus (first | ((repeat (first | with_reducible exact Tk.here | with_reducible apply Tk.there)); done) | ((repeat (first | exact Tk.here | apply Tk.there)); done))) | apply Sb.drop)) h)
        ·
          exact svg rfl (vmB rfl) <| sng rfl <| sng rfl <| svg rfl (vpkf rfl) <| sv (vpkf rfl) <| sv (vaB rfl) <| WL.nil <| WX.mid () trivial ⟨by unfold isLet; exact bF (by omega), trivial⟩ ⟨rfl, rfl, trivial⟩ (fun _ h => Sb.own (by repeat' (first | with_reducible exact Sb.all | exact Sb.nil | (apply Sb.cons; focus (first | ((repeat (first | with_reducible exact Tk.here | with_reducible apply Tk.there)); done) | ((repeat (first | exact Tk.here | apply Tk.there)); done))) | apply Sb.drop)) h)
    refine WC.iteb rfl (fun h3 => ?_) (fun h3 => ?_)
    · -- then
      exact absurd h3 (by rw [ht]; decide)
    · -- else
      refine WC.skip <| WX.blockN <| WX.thenN <| WC.seq <| WC.seq <| WC.region <| sv (vmP rfl) <| clx (by repeat' (first | with_reducible exact Sb.all | exact Sb.nil | (apply Sb.cons; focus (first | ((repeat (first | with_reducible exact Tk.here | with_reducible apply Tk.there)); done) | ((repeat (first | exact Tk.here | apply Tk.there)); done))) | apply Sb.drop)) (ex_op hl2 hS (sk_cons (sk_head hsk)) hw) ct30 rfl fun r10 hr10 => ?_
      refine alz (cs := [.string ByteArray.empty]) zt9 (by rfl) fun b11 => stp (v := .string _) pl9 sz9 rfl rfl rfl <| WL.nil <| WX.thenN <| WC.seq <| WC.region <| sv (vldc pl9 rfl) <| WL.nil <| WX.thenN <| WC.block <| ?_
      refine WC.cutvS (ι := Unit) (fun i => [(65, .bool false)]) [(0, .pointer _), (5, _), (64, .string _)] (fun i => True) ⟨rfl, rfl, rfl, trivial⟩ ?_ ?_
      · -- up to the join
        refine WC.seq <| WC.region <| sv (veqs rfl rfl) <| sv (vaB rfl) <| WL.nil <| WX.thenN <| ?_
        refine WC.ite rfl (fun h4 => ?_) (fun h4 => ?_)
        · -- then
          exact WC.skip <| WX.mid (()) (trivial) ⟨absurd (h4) (by decide), trivial⟩ ⟨rfl, rfl, rfl, trivial⟩ (fun _ h => Sb.own (by repeat' (first | with_reducible exact Sb.all | exact Sb.nil | (apply Sb.cons; focus (first | ((repeat (first | with_reducible exact Tk.here | with_reducible apply Tk.there)); done) | ((repeat (first | exact Tk.here | apply Tk.there)); done))) | apply Sb.drop)) h)
        · -- else
          exact WC.region <| sv (veqs rfl rfl) <| sv (vaB rfl) <| WL.nil <| WX.mid (()) (trivial) ⟨(bF (by decide)).symm, trivial⟩ ⟨rfl, rfl, rfl, trivial⟩ (fun _ h => Sb.own (by repeat' (first | with_reducible exact Sb.all | exact Sb.nil | (apply Sb.cons; focus (first | ((repeat (first | with_reducible exact Tk.here | with_reducible apply Tk.there)); done) | ((repeat (first | exact Tk.here | apply Tk.there)); done))) | apply Sb.drop)) h)
      · -- behind the join
        intro _ _ ρh
        refine WC.iteb rfl (fun h5 => ?_) (fun h5 => ?_)
        · -- then
          exact absurd h5 (by decide)
        · -- else
          refine WC.seq <| WC.region <| sv (veqs rfl rfl) <| sv (vaB rfl) <| WL.nil <| WX.thenN <| ?_
          refine WC.ite rfl (fun h6 => ?_) (fun h6 => ?_)
          · -- then
            refine WC.seq <| WC.region <| sv (vmP rfl) <| sv (vnil rfl) <| sv (vfldp fl43f1 rfl) <| sv (vldc pl3 rfl) <| sv (vw (v' := .int .i64 ((S.size - l1.length : Nat) : Int)) (vadd rfl rfl (by omega)) (by congr 1; simp only [List.length_cons]; omega)) <| sv (vnil rfl) <| sv (vfldp fl43f1 rfl) <| stp (v := .int _ _) pl3 sz3 rfl rfl rfl <| WL.nil <| WX.thenN <| WC.seq <| WC.region <| sv (vmP rfl) <| clx (by repeat' (first | with_reducible exact Sb.all | exact Sb.nil | (apply Sb.cons; focus (first | ((repeat (first | with_reducible exact Tk.here | with_reducible apply Tk.there)); done) | ((repeat (first | exact Tk.here | apply Tk.there)); done))) | apply Sb.drop)) (hf _) ct20 rfl fun r31 hr31 => ?_
            refine sv vmv <| sv (vex rfl rfl) <| sv (vex rfl rfl) <| sv (vaP rfl) <| sv (vaP rfl) <| WL.nil <| WX.thenN <| WC.seq <| WC.seq <| WC.region <| sv (vmP rfl) <| sv (vpneF Tryd.underlying44 rfl rfl) <| WL.nil <| WX.thenN <| ?_
            refine WC.ff rfl ?_
            refine WC.skip <| WX.thenN <| WC.seq <| WC.seq <| WC.region <| sv (vmP rfl) <| clx (by repeat' (first | with_reducible exact Sb.all | exact Sb.nil | (apply Sb.cons; focus (first | ((repeat (first | with_reducible exact Tk.here | with_reducible apply Tk.there)); done) | ((repeat (first | exact Tk.here | apply Tk.there)); done))) | apply Sb.drop)) (ex_skip_none hl3 hS hs2) ct21 rfl fun r33 hr33 => ?_
            refine sv (vnot rfl) <| WL.nil <| WX.thenN <| ?_
            refine WC.tt rfl ?_
            exact WC.seq <| WC.plan (.pre [0, 1, 2, 3, 4, 5] (.one [7] 6 (.done [8]))) rfl (by kernel_rfl) <| WPl.preC <| dv (fun g => (vmP rfl)) <| dv (fun g => (vnil rfl)) <| dv (fun g => (vfldpz fl43f0 rfl)) <| dv (fun g => (vldc pl9 rfl)) <| dv (fun g => (vlens Tryd.underlying9 rfl)) <| dv (fun g => (vbd (ps := [(0, .int _ _), (1, (.int .i64 41))]) (cs := [_, _]) bt48 zt48 rfl (by rfl))) <| WD.nil <| WPl.oneE (fun g => by infer_instance) <| dv (fun g => (vaP rfl)) <| WD.eff rfl <| bxc (v := .agg _) (cs := [.int _ _, .int _ _]) rfl rfl fun b36 => WL.nil <| WX.br <| WPl.finC <| dv (fun g => (vaP rfl)) <| WD.nil <| WX.thenN <| WC.ret <| WX.thenR <| WX.blockR <| WX.thenR <| WX.ret2 rfl (b36) (trivial) rfl (fun w h => Sb.own (by repeat' (first | with_reducible exact Sb.all | exact Sb.nil | (apply Sb.cons; focus (first | ((repeat (first | with_reducible exact Tk.here | with_reducible apply Tk.there)); done) | ((repeat (first | exact Tk.here | apply Tk.there)); done))) | apply Sb.drop)) h)
          · -- else
            exact absurd rfl h6
theorem ex_value_lp_word {w0 : World} {A : List HProp} {r p : Nat} {S : ByteArray} {l l1 : List UInt8} {c : UInt8} (hl : l <:+ S.data.toList) (hS : S.size ≤ 4611686018427387903) (hsk : sk l = c :: l1) (hl2 : c :: l1 <:+ S.data.toList) (hd : isDig c = false) (ht : isLet c = false) (hw : wd (c :: l1) = .lp) {l2 : List UInt8} {x : Tr} {q : Nat} (hf : ∀ A, Fun Tryd.prog w0 20 [.pointer (some ⟨r, 0, none⟩), .int .i64 1] (src r S l1 p :: A) (OkR w0 r S A x l2 q)) (hl3 : l2 <:+ S.data.toList) {d : UInt8} {l3 : List UInt8} {w2 : Wd} (hs2 : sk l2 = d :: l3) (hl4 : d :: l3 <:+ S.data.toList) (hw2 : wd (d :: l3) = w2) (h41 : w2.bytes ≠ [41]) :
    Fun Tryd.prog w0 29 [.pointer (some ⟨r, 0, none⟩)] (src r S l p :: A) (BadR w0 S A (d :: l3) 40) := by
  unfold OkR at hf
  unfold BadR
  have hll := suf_len hl2
  simp only [List.length_cons] at hll
  refine Fun.enter Tryd.func29 rfl Tryd.ntmps29 rfl ?_
  refine WC.seq <| WC.region <| sv (vaP rfl) <| sv (vaP rfl) <| WL.nil <| WX.thenN <| WC.seq <| WC.seq <| WC.region <| sv (vmP rfl) <| clx (by repeat' (first | with_reducible exact Sb.all | exact Sb.nil | (apply Sb.cons; focus (first | ((repeat (first | with_reducible exact Tk.here | with_reducible apply Tk.there)); done) | ((repeat (first | exact Tk.here | apply Tk.there)); done))) | apply Sb.drop)) (ex_skip_some hl hS hsk) ct21 rfl fun r1 hr1 => ?_
  refine sv (vnot rfl) <| WL.nil <| WX.thenN <| ?_
  refine WC.ff rfl ?_
  refine WC.skip <| WX.thenN <| WC.seq <| WC.draws rfl (by kernel_rfl) <| qv (vmP rfl) <| qv (vnil rfl) <| qv (vfldpz fl43f0 rfl) <| qv (vldc pl9 rfl) <| qv (vmP rfl) <| qv (vnil rfl) <| qv (vfldp fl43f1 rfl) <| qv (vldc pl3 rfl) <| qv (vixs Tryd.underlying9 rfl rfl (by omega) (show S[((S.size - (c :: l1).length : Nat) : Int).toNat]? = some c from suf_get0 hl2 (by simp))) <| qv (vaI rfl) <| WQ.nil <| WX.thenN <| WC.seq <| WC.block <| ?_
  refine WC.cutS [(31, .bool (isDig c))] [(0, .pointer _), (4, .int _ _)] ⟨rfl, rfl, trivial⟩ ?_ fun ρh => ?_
  · -- expr.go:131
    refine WC.region <| sv (vmI rfl) <| svs (vge rfl rfl) (fun q1 => ?_) (fun q1 => ?_)
    ·
      exact sv (vmB rfl) <| svg rfl (vmI rfl) <| svg rfl (vle rfl rfl) <| sv (vpkt rfl) <| sv (vaB rfl) <| WL.nil <| WX.mid () trivial ⟨by unfold isDig; exact bI (by omega), trivial⟩ ⟨rfl, rfl, trivial⟩ (fun _ h => Sb.own (by repeat' (first | with_reducible exact Sb.all | exact Sb.nil | (apply Sb.cons; focus (first | ((repeat (first | with_reducible exact Tk.here | with_reducible apply Tk.there)); done) | ((repeat (first | exact Tk.here | apply Tk.there)); done))) | apply Sb.drop)) h)
    ·
      exact sv (vmB rfl) <| sng rfl <| sng rfl <| sv (vpkf rfl) <| sv (vaB rfl) <| WL.nil <| WX.mid () trivial ⟨by unfold isDig; exact bF (by omega), trivial⟩ ⟨rfl, rfl, trivial⟩ (fun _ h => Sb.own (by repeat' (first | with_reducible exact Sb.all | exact Sb.nil | (apply Sb.cons; focus (first | ((repeat (first | with_reducible exact Tk.here | with_reducible apply Tk.there)); done) | ((repeat (first | exact Tk.here | apply Tk.there)); done))) | apply Sb.drop)) h)
  refine WC.iteb rfl (fun h2 => ?_) (fun h2 => ?_)
  · -- then
    exact absurd h2 (by rw [hd]; decide)
  · -- else
    refine WC.cutS [(42, .bool (isLet c))] [(0, .pointer _), (4, .int _ _)] ⟨rfl, rfl, trivial⟩ ?_ fun ρh => ?_
    · -- expr.go:133
      refine WC.region <| sv (vmI rfl) <| svs (vge rfl rfl) (fun q2 => ?_) (fun q2 => ?_)
      ·
        refine sv (vmB rfl) <| svg rfl (vmI rfl) <| svsg rfl (vle rfl rfl) (fun q3 => ?_) (fun q3 => ?_)
        ·
          exact sv (vpkt rfl) <| sv (vmB rfl) <| sng rfl <| sng rfl <| sng rfl <| sng rfl <| sng rfl <| sng rfl <| sv (vpkt rfl) <| sv (vaB rfl) <| WL.nil <| WX.mid () trivial ⟨by unfold isLet; exact bT (by omega), trivial⟩ ⟨rfl, rfl, trivial⟩ (fun _ h => Sb.own (by repeat' (first | with_reducible exact Sb.all | exact Sb.nil | (apply Sb.cons; focus (first | ((repeat (first | with_reducible exact Tk.here | with_reducible apply Tk.there)); done) | ((repeat (first | exact Tk.here | apply Tk.there)); done))) | apply Sb.drop)) h)
        ·
          refine sv (vpkt rfl) <| sv (vmB rfl) <| svg rfl (vmI rfl) <| svsg rfl (vge rfl rfl) (fun q4 => ?_) (fun q4 => ?_)
          ·
            exact svg rfl (vmB rfl) <| svg rfl (vmI rfl) <| svg rfl (vle rfl rfl) <| svg rfl (vpkt rfl) <| sv (vpkf rfl) <| sv (vaB rfl) <| WL.nil <| WX.mid () trivial ⟨by unfold isLet; exact bI (by omega), trivial⟩ ⟨rfl, rfl, trivial⟩ (fun _ h => Sb.own (by repeat' (first | with_reducible exact Sb.all | exact Sb.nil | (apply Sb.cons; focus (first | ((repeat (first | with_reducible exact Tk.here | with_reducible apply Tk.there)); done) | ((repeat (first | exact Tk.here | apply Tk.there)); done))) | apply Sb.drop)) h)
          ·
            exact svg rfl (vmB rfl) <| sng rfl <| sng rfl <| svg rfl (vpkf rfl) <| sv (vpkf rfl) <| sv (vaB rfl) <| WL.nil <| WX.mid () trivial ⟨by unfold isLet; exact bF (by omega), trivial⟩ ⟨rfl, rfl, trivial⟩ (fun _ h => Sb.own (by repeat' (first | with_reducible exact Sb.all | exact Sb.nil | (apply Sb.cons; focus (first | ((repeat (first | with_reducible exact Tk.here | with_reducible apply Tk.there)); done) | ((repeat (first | exact Tk.here | apply Tk.there)); done))) | apply Sb.drop)) h)
      ·
        refine sv (vmB rfl) <| sng rfl <| sng rfl <| sv (vpkf rfl) <| sv (vmB rfl) <| svg rfl (vmI rfl) <| svsg rfl (vge rfl rfl) (fun q5 => ?_) (fun q5 => ?_)
        ·
          exact svg rfl (vmB rfl) <| svg rfl (vmI rfl) <| svg rfl (vle rfl rfl) <| svg rfl (vpkt rfl) <| sv (vpkf rfl) <| sv (vaB rfl) <| WL.nil <| WX.mid () trivial ⟨by unfold isLet; exact bI (by omega), trivial⟩ ⟨rfl, rfl, trivial⟩ (fun _ h => Sb.own (by repeat' (first | with_reducible exact Sb.all | exact Sb.nil | (apply Sb.cons; focus (first | ((repeat (first | with_reducible exact Tk.here | with_reducible apply Tk.there)); done) | ((repeat (first | exact Tk.here | apply Tk.there)); done))) | apply Sb.drop)) h)
        ·
          exact svg rfl (vmB rfl) <| sng rfl <| sng rfl <| svg rfl (vpkf rfl) <| sv (vpkf rfl) <| sv (vaB rfl) <| WL.nil <| WX.mid () trivial ⟨by unfold isLet; exact bF (by omega), trivial⟩ ⟨rfl, rfl, trivial⟩ (fun _ h => Sb.own (by repeat' (first | with_reducible exact Sb.all | exact Sb.nil | (apply Sb.cons; focus (first | ((repeat (first | with_reducible exact Tk.here | with_reducible apply Tk.there)); done) | ((repeat (first | exact Tk.here | apply Tk.there)); done))) | apply Sb.drop)) h)
    refine WC.iteb rfl (fun h3 => ?_) (fun h3 => ?_)
    · -- then
      exact absurd h3 (by rw [ht]; decide)
    · -- else
      refine WC.skip <| WX.blockN <| WX.thenN <| WC.seq <| WC.seq <| WC.region <| sv (vmP rfl) <| clx (by repeat' (first | with_reducible exact Sb.all | exact Sb.nil | (apply Sb.cons; focus (first | ((repeat (first | with_reducible exact Tk.here | with_reducible apply Tk.there)); done) | ((repeat (first | exact Tk.here | apply Tk.there)); done))) | apply Sb.drop)) (ex_op hl2 hS (sk_cons (sk_head hsk)) hw) ct30 rfl fun r10 hr10 => ?_
      refine alz (cs := [.string ByteArray.empty]) zt9 (by rfl) fun b11 => stp (v := .string _) pl9 sz9 rfl rfl rfl <| WL.nil <| WX.thenN <| WC.seq <| WC.region <| sv (vldc pl9 rfl) <| WL.nil <| WX.thenN <| WC.block <| ?_
      refine WC.cutvS (ι := Unit) (fun i => [(65, .bool false)]) [(0, .pointer _), (5, _), (64, .string _)] (fun i => True) ⟨rfl, rfl, rfl, trivial⟩ ?_ ?_
      · -- up to the join
        refine WC.seq <| WC.region <| sv (veqs rfl rfl) <| sv (vaB rfl) <| WL.nil <| WX.thenN <| ?_
        refine WC.ite rfl (fun h4 => ?_) (fun h4 => ?_)
        · -- then
          exact WC.skip <| WX.mid (()) (trivial) ⟨absurd (h4) (by decide), trivial⟩ ⟨rfl, rfl, rfl, trivial⟩ (fun _ h => Sb.own (by repeat' (first | with_reducible exact Sb.all | exact Sb.nil | (apply Sb.cons; focus (first | ((repeat (first | with_reducible exact Tk.here | with_reducible apply Tk.there)); done) | ((repeat (first | exact Tk.here | apply Tk.there)); done))) | apply Sb.drop)) h)
        · -- else
          exact WC.region <| sv (veqs rfl rfl) <| sv (vaB rfl) <| WL.nil <| WX.mid (()) (trivial) ⟨(bF (by decide)).symm, trivial⟩ ⟨rfl, rfl, rfl, trivial⟩ (fun _ h => Sb.own (by repeat' (first | with_reducible exact Sb.all | exact Sb.nil | (apply Sb.cons; focus (first | ((repeat (first | with_reducible exact Tk.here | with_reducible apply Tk.there)); done) | ((repeat (first | exact Tk.here | apply Tk.there)); done))) | apply Sb.drop)) h)
      · -- behind the join
        intro _ _ ρh
        refine WC.iteb rfl (fun h5 => ?_) (fun h5 => ?_)
        · -- then
          exact absurd h5 (by decide)
        · -- else
          refine WC.seq <| WC.region <| sv (veqs rfl rfl) <| sv (vaB rfl) <| WL.nil <| WX.thenN <| ?_
          refine WC.ite rfl (fun h6 => ?_) (fun h6 => ?_)
          · -- then
            refine WC.seq <| WC.region <| sv (vmP rfl) <| sv (vnil rfl) <| sv (vfldp fl43f1 rfl) <| sv (vldc pl3 rfl) <| sv (vw (v' := .int .i64 ((S.size - l1.length : Nat) : Int)) (vadd rfl rfl (by omega)) (by congr 1; simp only [List.length_cons]; omega)) <| sv (vnil rfl) <| sv (vfldp fl43f1 rfl) <| stp (v := .int _ _) pl3 sz3 rfl rfl rfl <| WL.nil <| WX.thenN <| WC.seq <| WC.region <| sv (vmP rfl) <| clx (by repeat' (first | with_reducible exact Sb.all | exact Sb.nil | (apply Sb.cons; focus (first | ((repeat (first | with_reducible exact Tk.here | with_reducible apply Tk.there)); done) | ((repeat (first | exact Tk.here | apply Tk.there)); done))) | apply Sb.drop)) (hf _) ct20 rfl fun r31 hr31 => ?_
            refine sv vmv <| sv (vex rfl rfl) <| sv (vex rfl rfl) <| sv (vaP rfl) <| sv (vaP rfl) <| WL.nil <| WX.thenN <| WC.seq <| WC.seq <| WC.region <| sv (vmP rfl) <| sv (vpneF Tryd.underlying44 rfl rfl) <| WL.nil <| WX.thenN <| ?_
            refine WC.ff rfl ?_
            refine WC.skip <| WX.thenN <| WC.seq <| WC.seq <| WC.region <| sv (vmP rfl) <| clx (by repeat' (first | with_reducible exact Sb.all | exact Sb.nil | (apply Sb.cons; focus (first | ((repeat (first | with_reducible exact Tk.here | with_reducible apply Tk.there)); done) | ((repeat (first | exact Tk.here | apply Tk.there)); done))) | apply Sb.drop)) (ex_skip_some hl3 hS hs2) ct21 rfl fun r33 hr33 => ?_
            refine sv (vnot rfl) <| WL.nil <| WX.thenN <| ?_
            refine WC.ff rfl ?_
            refine WC.skip <| WX.thenN <| WC.seq <| WC.seq <| WC.region <| sv (vmP rfl) <| clx (by repeat' (first | with_reducible exact Sb.all | exact Sb.nil | (apply Sb.cons; focus (first | ((repeat (first | with_reducible exact Tk.here | with_reducible apply Tk.there)); done) | ((repeat (first | exact Tk.here | apply Tk.there)); done))) | apply Sb.drop)) (ex_op hl4 hS (sk_cons (sk_head hs2)) hw2) ct30 rfl fun r37 hr37 => ?_
            refine sv (vnes rfl rfl) <| WL.nil <| WX.thenN <| ?_
            refine WC.ite rfl (fun h9 => ?_) (fun h9 => ?_)
            · -- then
              exact WC.seq <| WC.plan (.pre [0, 1, 2, 3, 4] (.one [6] 5 (.done [7]))) rfl (by kernel_rfl) <| WPl.preC <| dv (fun g => (vmP rfl)) <| dv (fun g => (vnil rfl)) <| dv (fun g => (vfldp fl43f1 rfl)) <| dv (fun g => (vldc pl3 rfl)) <| dv (fun g => (vbd (ps := [(0, .int _ _), (1, (.int .i64 40))]) (cs := [_, _]) bt48 zt48 rfl (by rfl))) <| WD.nil <| WPl.oneE (fun g => by infer_instance) <| dv (fun g => (vaP rfl)) <| WD.eff rfl <| bxc (v := .agg _) (cs := [.int _ _, .int _ _]) rfl rfl fun b40 => WL.nil <| WX.br <| WPl.finC <| dv (fun g => (vaP rfl)) <| WD.nil <| WX.thenN <| WC.ret <| WX.thenR <| WX.blockR <| WX.thenR <| WX.ret2 rfl (b40) (trivial) rfl (fun w h => Sb.own (by repeat' (first | with_reducible exact Sb.all | exact Sb.nil | (apply Sb.cons; focus (first | ((repeat (first | with_reducible exact Tk.here | with_reducible apply Tk.there)); done) | ((repeat (first | exact Tk.here | apply Tk.there)); done))) | apply Sb.drop)) h)
            · -- else
              exact absurd (fun e => h41 ((bs_inj (a := w2.bytes) (b := [41])).1 e)) h9
          · -- else
            exact absurd rfl h6
theorem ex_value_lp_ok {w0 : World} {A : List HProp} {r p : Nat} {S : ByteArray} {l l1 : List UInt8} {c : UInt8} (hl : l <:+ S.data.toList) (hS : S.size ≤ 4611686018427387903) (hsk : sk l = c :: l1) (hl2 : c :: l1 <:+ S.data.toList) (hd : isDig c = false) (ht : isLet c = false) (hw : wd (c :: l1) = .lp) {l2 : List UInt8} {x : Tr} {q : Nat} (hf : ∀ A, Fun Tryd.prog w0 20 [.pointer (some ⟨r, 0, none⟩), .int .i64 1] (src r S l1 p :: A) (OkR w0 r S A x l2 q)) (hl3 : l2 <:+ S.data.toList) {d : UInt8} {l3 : List UInt8} {w2 : Wd} (hs2 : sk l2 = d :: l3) (hl4 : d :: l3 <:+ S.data.toList) (hw2 : wd (d :: l3) = w2) (h41 : w2.bytes = [41]) :
    Fun Tryd.prog w0 29 [.pointer (some ⟨r, 0, none⟩)] (src r S l p :: A) (OkR w0 r S A x l3 q) := by
  unfold OkR at hf ⊢
  have hll4 := suf_len hl4
  simp only [List.length_cons] at hll4
  have hll := suf_len hl2
  simp only [List.length_cons] at hll
  refine Fun.enter Tryd.func29 rfl Tryd.ntmps29 rfl ?_
  refine WC.seq <| WC.region <| sv (vaP rfl) <| sv (vaP rfl) <| WL.nil <| WX.thenN <| WC.seq <| WC.seq <| WC.region <| sv (vmP rfl) <| clx (by repeat' (first | with_reducible exact Sb.all | exact Sb.nil | (apply Sb.cons; focus (first | ((repeat (first | with_reducible exact Tk.here | with_reducible apply Tk.there)); done) | ((repeat (first | exact Tk.here | apply Tk.there)); done))) | apply Sb.drop)) (ex_skip_some hl hS hsk) ct21 rfl fun r1 hr1 => ?_
  refine sv (vnot rfl) <| WL.nil <| WX.thenN <| ?_
  refine WC.ff rfl ?_
  refine WC.skip <| WX.thenN <| WC.seq <| WC.draws rfl (by kernel_rfl) <| qv (vmP rfl) <| qv (vnil rfl) <| qv (vfldpz fl43f0 rfl) <| qv (vldc pl9 rfl) <| qv (vmP rfl) <| qv (vnil rfl) <| qv (vfldp fl43f1 rfl) <| qv (vldc pl3 rfl) <| qv (vixs Tryd.underlying9 rfl rfl (by omega) (show S[((S.size - (c :: l1).length : Nat) : Int).toNat]? = some c from suf_get0 hl2 (by simp))) <| qv (vaI rfl) <| WQ.nil <| WX.thenN <| WC.seq <| WC.block <| ?_
  refine WC.cutS [(31, .bool (isDig c))] [(0, .pointer _), (4, .int _ _)] ⟨rfl, rfl, trivial⟩ ?_ fun ρh => ?_
  · -- expr.go:131
    refine WC.region <| sv (vmI rfl) <| svs (vge rfl rfl) (fun q1 => ?_) (fun q1 => ?_)
    ·
      exact sv (vmB rfl) <| svg rfl (vmI rfl) <| svg rfl (vle rfl rfl) <| sv (vpkt rfl) <| sv (vaB rfl) <| WL.nil <| WX.mid () trivial ⟨by unfold isDig; exact bI (by omega), trivial⟩ ⟨rfl, rfl, trivial⟩ (fun _ h => Sb.own (by repeat' (first | with_reducible exact Sb.all | exact Sb.nil | (apply Sb.cons; focus (first | ((repeat (first | with_reducible exact Tk.here | with_reducible apply Tk.there)); done) | ((repeat (first | exact Tk.here | apply Tk.there)); done))) | apply Sb.drop)) h)
    ·
      exact sv (vmB rfl) <| sng rfl <| sng rfl <| sv (vpkf rfl) <| sv (vaB rfl) <| WL.nil <| WX.mid () trivial ⟨by unfold isDig; exact bF (by omega), trivial⟩ ⟨rfl, rfl, trivial⟩ (fun _ h => Sb.own (by repeat' (first | with_reducible exact Sb.all | exact Sb.nil | (apply Sb.cons; focus (first | ((repeat (first | with_reducible exact Tk.here | with_reducible apply Tk.there)); done) | ((repeat (first | exact Tk.here | apply Tk.there)); done))) | apply Sb.drop)) h)
  refine WC.iteb rfl (fun h2 => ?_) (fun h2 => ?_)
  · -- then
    exact absurd h2 (by rw [hd]; decide)
  · -- else
    refine WC.cutS [(42, .bool (isLet c))] [(0, .pointer _), (4, .int _ _)] ⟨rfl, rfl, trivial⟩ ?_ fun ρh => ?_
    · -- expr.go:133
      refine WC.region <| sv (vmI rfl) <| svs (vge rfl rfl) (fun q2 => ?_) (fun q2 => ?_)
      ·
        refine sv (vmB rfl) <| svg rfl (vmI rfl) <| svsg rfl (vle rfl rfl) (fun q3 => ?_) (fun q3 => ?_)
        ·
          exact sv (vpkt rfl) <| sv (vmB rfl) <| sng rfl <| sng rfl <| sng rfl <| sng rfl <| sng rfl <| sng rfl <| sv (vpkt rfl) <| sv (vaB rfl) <| WL.nil <| WX.mid () trivial ⟨by unfold isLet; exact bT (by omega), trivial⟩ ⟨rfl, rfl, trivial⟩ (fun _ h => Sb.own (by repeat' (first | with_reducible exact Sb.all | exact Sb.nil | (apply Sb.cons; focus (first | ((repeat (first | with_reducible exact Tk.here | with_reducible apply Tk.there)); done) | ((repeat (first | exact Tk.here | apply Tk.there)); done))) | apply Sb.drop)) h)
        ·
          refine sv (vpkt rfl) <| sv (vmB rfl) <| svg rfl (vmI rfl) <| svsg rfl (vge rfl rfl) (fun q4 => ?_) (fun q4 => ?_)
          ·
            exact svg rfl (vmB rfl) <| svg rfl (vmI rfl) <| svg rfl (vle rfl rfl) <| svg rfl (vpkt rfl) <| sv (vpkf rfl) <| sv (vaB rfl) <| WL.nil <| WX.mid () trivial ⟨by unfold isLet; exact bI (by omega), trivial⟩ ⟨rfl, rfl, trivial⟩ (fun _ h => Sb.own (by repeat' (first | with_reducible exact Sb.all | exact Sb.nil | (apply Sb.cons; focus (first | ((repeat (first | with_reducible exact Tk.here | with_reducible apply Tk.there)); done) | ((repeat (first | exact Tk.here | apply Tk.there)); done))) | apply Sb.drop)) h)
          ·
            exact svg rfl (vmB rfl) <| sng rfl <| sng rfl <| svg rfl (vpkf rfl) <| sv (vpkf rfl) <| sv (vaB rfl) <| WL.nil <| WX.mid () trivial ⟨by unfold isLet; exact bF (by omega), trivial⟩ ⟨rfl, rfl, trivial⟩ (fun _ h => Sb.own (by repeat' (first | with_reducible exact Sb.all | exact Sb.nil | (apply Sb.cons; focus (first | ((repeat (first | with_reducible exact Tk.here | with_reducible apply Tk.there)); done) | ((repeat (first | exact Tk.here | apply Tk.there)); done))) | apply Sb.drop)) h)
      ·
        refine sv (vmB rfl) <| sng rfl <| sng rfl <| sv (vpkf rfl) <| sv (vmB rfl) <| svg rfl (vmI rfl) <| svsg rfl (vge rfl rfl) (fun q5 => ?_) (fun q5 => ?_)
        ·
          exact svg rfl (vmB rfl) <| svg rfl (vmI rfl) <| svg rfl (vle rfl rfl) <| svg rfl (vpkt rfl) <| sv (vpkf rfl) <| sv (vaB rfl) <| WL.nil <| WX.mid () trivial ⟨by unfold isLet; exact bI (by omega), trivial⟩ ⟨rfl, rfl, trivial⟩ (fun _ h => Sb.own (by repeat' (first | with_reducible exact Sb.all | exact Sb.nil | (apply Sb.cons; focus (first | ((repeat (first | with_reducible exact Tk.here | with_reducible apply Tk.there)); done) | ((repeat (first | exact Tk.here | apply Tk.there)); done))) | apply Sb.drop)) h)
        ·
          exact svg rfl (vmB rfl) <| sng rfl <| sng rfl <| svg rfl (vpkf rfl) <| sv (vpkf rfl) <| sv (vaB rfl) <| WL.nil <| WX.mid () trivial ⟨by unfold isLet; exact bF (by omega), trivial⟩ ⟨rfl, rfl, trivial⟩ (fun _ h => Sb.own (by repeat' (first | with_reducible exact Sb.all | exact Sb.nil | (apply Sb.cons; focus (first | ((repeat (first | with_reducible exact Tk.here | with_reducible apply Tk.there)); done) | ((repeat (first | exact Tk.here | apply Tk.there)); done))) | apply Sb.drop)) h)
    refine WC.iteb rfl (fun h3 => ?_) (fun h3 => ?_)
    · -- then
      exact absurd h3 (by rw [ht]; decide)
    · -- else
      refine WC.skip <| WX.blockN <| WX.thenN <| WC.seq <| WC.seq <| WC.region <| sv (vmP rfl) <| clx (by repeat' (first | with_reducible exact Sb.all | exact Sb.nil | (apply Sb.cons; focus (first | ((repeat (first | with_reducible exact Tk.here | with_reducible apply Tk.there)); done) | ((repeat (first | exact Tk.here | apply Tk.there)); done))) | apply Sb.drop)) (ex_op hl2 hS (sk_cons (sk_head hsk)) hw) ct30 rfl fun r10 hr10 => ?_
      refine alz (cs := [.string ByteArray.empty]) zt9 (by rfl) fun b11 => stp (v := .string _) pl9 sz9 rfl rfl rfl <| WL.nil <| WX.thenN <| WC.seq <| WC.region <| sv (vldc pl9 rfl) <| WL.nil <| WX.thenN <| WC.block <| ?_
      refine WC.cutvS (ι := Unit) (fun i => [(65, .bool false)]) [(0, .pointer _), (5, _), (64, .string _)] (fun i => True) ⟨rfl, rfl, rfl, trivial⟩ ?_ ?_
      · -- up to the join
        refine WC.seq <| WC.region <| sv (veqs rfl rfl) <| sv (vaB rfl) <| WL.nil <| WX.thenN <| ?_
        refine WC.ite rfl (fun h4 => ?_) (fun h4 => ?_)
        · -- then
          exact WC.skip <| WX.mid (()) (trivial) ⟨absurd (h4) (by decide), trivial⟩ ⟨rfl, rfl, rfl, trivial⟩ (fun _ h => Sb.own (by repeat' (first | with_reducible exact Sb.all | exact Sb.nil | (apply Sb.cons; focus (first | ((repeat (first | with_reducible exact Tk.here | with_reducible apply Tk.there)); done) | ((repeat (first | exact Tk.here | apply Tk.there)); done))) | apply Sb.drop)) h)
        · -- else
          exact WC.region <| sv (veqs rfl rfl) <| sv (vaB rfl) <| WL.nil <| WX.mid (()) (trivial) ⟨(bF (by decide)).symm, trivial⟩ ⟨rfl, rfl, rfl, trivial⟩ (fun _ h => Sb.own (by repeat' (first | with_reducible exact Sb.all | exact Sb.nil | (apply Sb.cons; focus (first | ((repeat (first | with_reducible exact Tk.here | with_reducible apply Tk.there)); done) | ((repeat (first | exact Tk.here | apply Tk.there)); done))) | apply Sb.drop)) h)
      · -- behind the join
        intro _ _ ρh
        refine WC.iteb rfl (fun h5 => ?_) (fun h5 => ?_)
        · -- then
          exact absurd h5 (by decide)
        · -- else
          refine WC.seq <| WC.region <| sv (veqs rfl rfl) <| sv (vaB rfl) <| WL.nil <| WX.thenN <| ?_
          refine WC.ite rfl (fun h6 => ?_) (fun h6 => ?_)
          · -- then
            refine WC.seq <| WC.region <| sv (vmP rfl) <| sv (vnil rfl) <| sv (vfldp fl43f1 rfl) <| sv (vldc pl3 rfl) <| sv (vw (v' := .int .i64 ((S.size - l1.length : Nat) : Int)) (vadd rfl rfl (by omega)) (by congr 1; simp only [List.length_cons]; omega)) <| sv (vnil rfl) <| sv (vfldp fl43f1 rfl) <| stp (v := .int _ _) pl3 sz3 rfl rfl rfl <| WL.nil <| WX.thenN <| WC.seq <| WC.region <| sv (vmP rfl) <| clx (by repeat' (first | with_reducible exact Sb.all | exact Sb.nil | (apply Sb.cons; focus (first | ((repeat (first | with_reducible exact Tk.here | with_reducible apply Tk.there)); done) | ((repeat (first | exact Tk.here | apply Tk.there)); done))) | apply Sb.drop)) (hf _) ct20 rfl fun r31 hr31 => ?_
            refine sv vmv <| sv (vex rfl rfl) <| sv (vex rfl rfl) <| sv (vaP rfl) <| sv (vaP rfl) <| WL.nil <| WX.thenN <| WC.seq <| WC.seq <| WC.region <| sv (vmP rfl) <| sv (vpneF Tryd.underlying44 rfl rfl) <| WL.nil <| WX.thenN <| ?_
            refine WC.ff rfl ?_
            refine WC.skip <| WX.thenN <| WC.seq <| WC.seq <| WC.region <| sv (vmP rfl) <| clx (by repeat' (first | with_reducible exact Sb.all | exact Sb.nil | (apply Sb.cons; focus (first | ((repeat (first | with_reducible exact Tk.here | with_reducible apply Tk.there)); done) | ((repeat (first | exact Tk.here | apply Tk.there)); done))) | apply Sb.drop)) (ex_skip_some hl3 hS hs2) ct21 rfl fun r33 hr33 => ?_
            refine sv (vnot rfl) <| WL.nil <| WX.thenN <| ?_
            refine WC.ff rfl ?_
            refine WC.skip <| WX.thenN <| WC.seq <| WC.seq <| WC.region <| sv (vmP rfl) <| clx (by repeat' (first | with_reducible exact Sb.all | exact Sb.nil | (apply Sb.cons; focus (first | ((repeat (first | with_reducible exact Tk.here | with_reducible apply Tk.there)); done) | ((repeat (first | exact Tk.here | apply Tk.there)); done))) | apply Sb.drop)) (ex_op hl4 hS (sk_cons (sk_head hs2)) hw2) ct30 rfl fun r37 hr37 => ?_
            refine sv (vnes rfl rfl) <| WL.nil <| WX.thenN <| ?_
            refine WC.ite rfl (fun h9 => ?_) (fun h9 => ?_)
            · -- then
              exact absurd (by rw [h41]; rfl) h9
            · -- else
              exact WC.skip <| WX.thenN <| WC.seq <| WC.region <| sv (vmP rfl) <| sv (vnil rfl) <| sv (vfldp fl43f1 rfl) <| sv (vldc pl3 rfl) <| sv (vw (v' := .int .i64 ((S.size - l3.length : Nat) : Int)) (vadd rfl rfl (by omega)) (by congr 1; simp only [List.length_cons]; omega)) <| sv (vnil rfl) <| sv (vfldp fl43f1 rfl) <| stp (v := .int _ _) pl3 sz3 rfl rfl rfl <| WL.nil <| WX.thenN <| WC.seq <| WC.region <| sv (vmP rfl) <| sv (vaP rfl) <| sv (vaP rfl) <| WL.nil <| WX.thenN <| WC.ret <| WX.blockR <| WX.thenR <| WX.ret2 rfl (r31) (hr31) rfl (fun w h => Sb.own (by repeat' (first | with_reducible exact Sb.all | exact Sb.nil | (apply Sb.cons; focus (first | ((repeat (first | with_reducible exact Tk.here | with_reducible apply Tk.there)); done) | ((repeat (first | exact Tk.here | apply Tk.there)); done))) | apply Sb.drop)) h)
          · -- else
            exact absurd rfl h6
end Go.Proofs.YtoeglkkmjmhmiaaDoor
