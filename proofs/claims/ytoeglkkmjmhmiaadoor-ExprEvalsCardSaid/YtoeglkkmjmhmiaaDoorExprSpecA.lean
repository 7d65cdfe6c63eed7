/-
  Layer 4: the text that is read, as a chunk of memory; blanks, runs, words.
-/
import Derived.Test.YtoeglkkmjmhmiaaDoorExprPure
import Derived.Test.YtoeglkkmjmhmiaaDoorSlCallV
import Derived.Test.YtoeglkkmjmhmiaaDoorSlEq
import Derived.Test.YtoeglkkmjmhmiaaDoorBase
set_option linter.unusedVariables false
set_option linter.unusedSimpArgs false
set_option maxRecDepth 4000
namespace Go.Proofs.YtoeglkkmjmhmiaaDoor
open Go.Sl Go.RowKit Go.Expr

abbrev src (r : Nat) (S : ByteArray) (l : List UInt8) (p : Nat) : HProp := cel r [.string S, .int .i64 (((S.size - (l).length : Nat) : Int)), .int .i64 (p : Int)] 43
theorem suf_len {S : ByteArray} {l : List UInt8} (h : l <:+ S.data.toList) : l.length ≤ S.size := h.length_le
theorem suf_get {S : ByteArray} {l : List UInt8} {i : Int} {n : Nat} (h : l <:+ S.data.toList) (hn : n < l.length) (hi : i = ((S.size - (l).length : Nat) : Int) + n) : S[i.toNat]? = some (l.getD n 0) := by
  have hl := suf_len h
  obtain ⟨t, ht⟩ := h
  have hsz : S.size = t.length + l.length := by
    have : S.size = S.data.toList.length := rfl
    rw [this, ← ht, List.length_append]
  have hi' : i.toNat = t.length + n := by simp only [hi]; omega
  have h2 : i.toNat < S.size := by omega
  have h3 : S.data.toList[t.length + n]? = some (l.getD n 0) := by
    rw [← ht, List.getElem?_append_right (by omega), Nat.add_sub_cancel_left, List.getD_eq_getElem?_getD, List.getElem?_eq_getElem hn]; rfl
  have h4 : t.length + n < S.data.toList.length := by rw [← ht, List.length_append]; omega
  rw [← h3, hi', getElem?_pos S (t.length + n) (by omega), List.getElem?_eq_getElem h4]
  rfl
theorem sk_nil_iff : ∀ {l : List UInt8}, (sk l = [] ↔ (sk l).length = 0) := fun {l} => by cases sk l <;> simp
theorem head_tail {l : List UInt8} (h : 0 < l.length) : l = l.headD 0 :: l.tail := by cases l; simp at h; rfl
theorem getD0 {l : List UInt8} : l.getD 0 0 = l.headD 0 := by cases l <;> rfl
theorem suf_get0 {S : ByteArray} {l : List UInt8} (h : l <:+ S.data.toList) (h0 : 0 < l.length) : S[((S.size - l.length : Nat) : Int).toNat]? = some (l.headD 0) := by
  have := suf_get (n := 0) h h0 (i := ((S.size - l.length : Nat) : Int)) (by simp)
  rwa [getD0] at this
theorem u8_eq32 {c : UInt8} (h : (c.toNat : Int) = 32) : c = 32 := UInt8.toNat_inj.1 (by have h2 : (32 : UInt8).toNat = 32 := rfl; omega)
theorem ex_skip {w0 : World} {A : List HProp} {r p : Nat} {S : ByteArray} {l : List UInt8} (hl : l <:+ S.data.toList) (hS : S.size ≤ 9223372036854775806) :
    Fun Tryd.prog w0 21 [.pointer (some ⟨r, 0, none⟩)] (src r S l p :: A) (Ret w0 (fun _ : Unit => True) (fun _ => .bool (decide (0 < (sk l).length))) (fun _ => src r S (sk l) p :: A)) := by
  have hll := suf_len hl
  refine Fun.enter Tryd.func21 rfl Tryd.ntmps21 rfl ?_
  refine WC.seq <| WC.region <| sv (vaB rfl) <| WL.nil <| WX.thenN <| WC.seq <| WC.block <| ?_
  refine WC.loop (ι := List UInt8) (fun i => []) [(0, .pointer _)] (fun i => src r S i p :: A) (fun i => sk i = sk l ∧ i <:+ S.data.toList) (fun i => i.length) (l) (⟨rfl, hl⟩) trivial ⟨rfl, trivial⟩ (fun _ h => Sb.own (by repeat' (first | with_reducible exact Sb.all | exact Sb.nil | (apply Sb.cons; focus (first | ((repeat (first | with_reducible exact Tk.here | with_reducible apply Tk.there)); done) | ((repeat (first | exact Tk.here | apply Tk.there)); done))) | apply Sb.drop)) h) ?_
  rintro i ⟨hi1, hi2⟩ ρh
  have hil := suf_len hi2
  refine WC.seq <| ?_
  refine WC.cutS [(24, .bool (decide (0 < i.length ∧ i.headD 0 = 32)))] [(0, .pointer _)] ⟨rfl, trivial⟩ ?_ fun ρh => ?_
  · -- expr.go:32
    refine WC.draws rfl (by kernel_rfl) <| qv (vmP rfl) <| qv (vnil rfl) <| qv (vfldp fl43f1 rfl) <| qv (vldc pl3 rfl) <| qv (vmP rfl) <| qv (vnil rfl) <| qv (vfldpz fl43f0 rfl) <| qv (vldc pl9 rfl) <| qv (vlens Tryd.underlying9 rfl) <| qvs (vlt rfl rfl) (fun q1 => ?_) (fun q1 => ?_)
    ·
      exact qv (vmB rfl) <| qvg rfl (vmP rfl) <| qvg rfl (vnil rfl) <| qvg rfl (vfldpz fl43f0 rfl) <| qvg rfl (vldc pl9 rfl) <| qvg rfl (vmP rfl) <| qvg rfl (vnil rfl) <| qvg rfl (vfldp fl43f1 rfl) <| qvg rfl (vldc pl3 rfl) <| qvg rfl (vixs Tryd.underlying9 rfl rfl (by omega) (by rw [← getD0]; exact suf_get (n := 0) hi2 (by omega) (by simp []))) <| qvg rfl (veq rfl rfl) <| qv (vpkt rfl) <| WQ.nil <| WX.mid () trivial ⟨bI ⟨fun h => ⟨by omega, u8_eq32 h⟩, fun h => by rw [h.2]; rfl⟩, trivial⟩ ⟨rfl, trivial⟩ (fun _ h => Sb.own (by repeat' (first | with_reducible exact Sb.all | exact Sb.nil | (apply Sb.cons; focus (first | ((repeat (first | with_reducible exact Tk.here | with_reducible apply Tk.there)); done) | ((repeat (first | exact Tk.here | apply Tk.there)); done))) | apply Sb.drop)) h)
    ·
      exact qv (vmB rfl) <| qng rfl <| qng rfl <| qng rfl <| qng rfl <| qng rfl <| qng rfl <| qng rfl <| qng rfl <| qng rfl <| qng rfl <| qv (vpkf rfl) <| WQ.nil <| WX.mid () trivial ⟨bF (by first | omega | simp_all | grind), trivial⟩ ⟨rfl, trivial⟩ (fun _ h => Sb.own (by repeat' (first | with_reducible exact Sb.all | exact Sb.nil | (apply Sb.cons; focus (first | ((repeat (first | with_reducible exact Tk.here | with_reducible apply Tk.there)); done) | ((repeat (first | exact Tk.here | apply Tk.there)); done))) | apply Sb.drop)) h)
  refine WC.ite rfl (fun h1 => ?_) (fun h1 => ?_)
  · -- then
    obtain ⟨hp, hh⟩ := h1
    have ht := head_tail hp
    have htl : i.tail.length + 1 = i.length := by have := congrArg List.length ht; simpa using this.symm
    have hats : ((S.size - (i.tail).length : Nat) : Int) = ((S.size - (i).length : Nat) : Int) + 1 := by omega
    exact WC.skip <| WX.thenN <| WC.block <| WC.region <| sv (vmP rfl) <| sv (vnil rfl) <| sv (vfldp fl43f1 rfl) <| sv (vldc pl3 rfl) <| sv (vadd rfl rfl (by omega)) <| sv (vnil rfl) <| sv (vfldp fl43f1 rfl) <| stp (v := .int _ _) pl3 sz3 rfl rfl rfl <| WL.nil <| WX.blockN <| WX.again (i.tail) (⟨by rw [← hi1, ht, hh]; rfl, (List.tail_suffix i).trans hi2⟩) (by omega) trivial ⟨rfl, trivial⟩ (fun w h => by unfold src; rw [hats]; exact Sb.own (by repeat' (first | with_reducible exact Sb.all | exact Sb.nil | (apply Sb.cons; focus (first | ((repeat (first | with_reducible exact Tk.here | with_reducible apply Tk.there)); done) | ((repeat (first | exact Tk.here | apply Tk.there)); done))) | apply Sb.drop)) h)
  · -- else
    have hsk : sk l = i := by
      rw [← hi1]
      cases i with
      | nil => rfl
      | cons c t => exact sk_cons fun e => h1 ⟨by simp, e⟩
    rw [hsk]
    exact WC.exit <| WX.thenE <| WX.thenE <| WX.blockH <| WX.thenN <| WC.seq <| WC.draws rfl (by kernel_rfl) <| qv (vmP rfl) <| qv (vnil rfl) <| qv (vfldp fl43f1 rfl) <| qv (vldc pl3 rfl) <| qv (vmP rfl) <| qv (vnil rfl) <| qv (vfldpz fl43f0 rfl) <| qv (vldc pl9 rfl) <| qv (vlens Tryd.underlying9 rfl) <| qv (vlt rfl rfl) <| qv (vaB rfl) <| WQ.nil <| WX.thenN <| WC.ret <| WX.ret1 rfl (()) (trivial) (bI (by omega)) (fun _ h => Sb.own (by repeat' (first | with_reducible exact Sb.all | exact Sb.nil | (apply Sb.cons; focus (first | ((repeat (first | with_reducible exact Tk.here | with_reducible apply Tk.there)); done) | ((repeat (first | exact Tk.here | apply Tk.there)); done))) | apply Sb.drop)) h)
theorem runL_lt {p : UInt8 → Bool} : ∀ {l : List UInt8} {n : Nat}, n ≤ runL p l → (n < runL p l ↔ n < l.length ∧ p (l.getD n 0) = true)
  | [], n, h => by simp [runL] at h ⊢
  | c :: l, 0, h => by
    unfold runL
    cases hc : p c <;> simp [hc]
  | c :: l, n + 1, h => by
    unfold runL at h ⊢
    cases hc : p c with
    | true =>
      rw [hc] at h
      simp only [if_true] at h ⊢
      have := runL_lt (p := p) (l := l) (n := n) (by omega)
      simp only [List.length_cons]
      rw [show n + 1 < runL p l + 1 ↔ n < runL p l by omega, this]
      simp
    | false =>
      rw [hc] at h
      simp at h
theorem ex_run {w0 : World} {A : List HProp} {r q : Nat} {S : ByteArray} {l : List UInt8} {f : FuncId} {p : UInt8 → Bool} (hl : l <:+ S.data.toList) (hS : S.size ≤ 4611686018427387903) (hct : callT Tryd.prog f = true)
    (hp : ∀ (c : UInt8) (A : List HProp), Fun Tryd.prog w0 f [u8v c] A (Ret w0 (fun _ : Unit => True) (fun _ => .bool (p c)) (fun _ => A))) :
    Fun Tryd.prog w0 54 [.pointer (some ⟨r, 0, none⟩), .func (.func f) #[] #[]] (src r S l q :: A) (Ret w0 (fun _ : Unit => True) (fun _ => .int .i64 (runL p l)) (fun _ => src r S l q :: A)) := by
  have hll := suf_len hl
  have hrl := runL_le p l
  refine Fun.enter Tryd.func54 rfl Tryd.ntmps54 rfl ?_
  refine WC.seq <| WC.region <| sv (vaI rfl) <| WL.nil <| WX.thenN <| WC.seq <| WC.region <| sv (vaI rfl) <| WL.nil <| WX.thenN <| WC.seq <| WC.block <| ?_
  refine WC.loop (ι := Nat) (fun i => [(5, .int .i64 i)]) [(0, .pointer _), (1, .func _ _ _)] (fun i => src r S l q :: A) (fun i => i ≤ runL p l) (fun i => runL p l - i) (0) (by omega) ⟨rfl, trivial⟩ ⟨rfl, rfl, trivial⟩ (fun _ h => Sb.own (by repeat' (first | with_reducible exact Sb.all | exact Sb.nil | (apply Sb.cons; focus (first | ((repeat (first | with_reducible exact Tk.here | with_reducible apply Tk.there)); done) | ((repeat (first | exact Tk.here | apply Tk.there)); done))) | apply Sb.drop)) h) ?_
  intro i hi ρh
  refine WC.seq <| ?_
  refine WC.cutS [(32, .bool (decide (i < runL p l)))] [(0, .pointer _), (1, .func _ _ _), (5, .int _ _)] ⟨rfl, rfl, rfl, trivial⟩ ?_ fun ρh => ?_
  · -- expr.go:41
    refine WC.draws rfl (by kernel_rfl) <| qv (vmP rfl) <| qv (vnil rfl) <| qv (vfldp fl43f1 rfl) <| qv (vldc pl3 rfl) <| qv (vmI rfl) <| qv (vadd rfl rfl (by omega)) <| qv (vmP rfl) <| qv (vnil rfl) <| qv (vfldpz fl43f0 rfl) <| qv (vldc pl9 rfl) <| qv (vlens Tryd.underlying9 rfl) <| qvs (vlt rfl rfl) (fun q1 => ?_) (fun q1 => ?_)
    ·
      exact qv (vmB rfl) <| qvg rfl (vmF rfl) <| qvg rfl (vmP rfl) <| qvg rfl (vnil rfl) <| qvg rfl (vfldpz fl43f0 rfl) <| qvg rfl (vldc pl9 rfl) <| qvg rfl (vmP rfl) <| qvg rfl (vnil rfl) <| qvg rfl (vfldp fl43f1 rfl) <| qvg rfl (vldc pl3 rfl) <| qvg rfl (vmI rfl) <| qvg rfl (vadd rfl rfl (by omega)) <| qvg rfl (vixs Tryd.underlying9 rfl rfl (by omega) (suf_get (n := i) hl (by omega) rfl)) <| qclvg rfl (cap := []) (Fun.quiet (hp _ _)) (hct) rfl rfl <| qv (vpkt rfl) <| WQ.nil <| WX.mid () trivial ⟨bB (by rw [runL_lt hi]; exact ⟨fun h => ⟨by omega, h⟩, fun h => h.2⟩), trivial⟩ ⟨rfl, rfl, rfl, trivial⟩ (fun _ h => Sb.own (by repeat' (first | with_reducible exact Sb.all | exact Sb.nil | (apply Sb.cons; focus (first | ((repeat (first | with_reducible exact Tk.here | with_reducible apply Tk.there)); done) | ((repeat (first | exact Tk.here | apply Tk.there)); done))) | apply Sb.drop)) h)
    ·
      exact qv (vmB rfl) <| qng rfl <| qng rfl <| qng rfl <| qng rfl <| qng rfl <| qng rfl <| qng rfl <| qng rfl <| qng rfl <| qng rfl <| qng rfl <| qng rfl <| qng rfl <| qv (vpkf rfl) <| WQ.nil <| WX.mid () trivial ⟨bF (by rw [runL_lt hi]; omega), trivial⟩ ⟨rfl, rfl, rfl, trivial⟩ (fun _ h => Sb.own (by repeat' (first | with_reducible exact Sb.all | exact Sb.nil | (apply Sb.cons; focus (first | ((repeat (first | with_reducible exact Tk.here | with_reducible apply Tk.there)); done) | ((repeat (first | exact Tk.here | apply Tk.there)); done))) | apply Sb.drop)) h)
  refine WC.ite rfl (fun h1 => ?_) (fun h1 => ?_)
  · -- then
    exact WC.skip <| WX.thenN <| WC.block <| WC.region <| sv (vmI rfl) <| sv (vadd rfl rfl (by omega)) <| sv (vaI rfl) <| WL.nil <| WX.blockN <| WX.again (i + 1) (by omega) (by omega) ⟨rfl, trivial⟩ ⟨rfl, rfl, trivial⟩ (fun _ h => Sb.own (by repeat' (first | with_reducible exact Sb.all | exact Sb.nil | (apply Sb.cons; focus (first | ((repeat (first | with_reducible exact Tk.here | with_reducible apply Tk.there)); done) | ((repeat (first | exact Tk.here | apply Tk.there)); done))) | apply Sb.drop)) h)
  · -- else
    have hir : i = runL p l := by omega
    exact WC.exit <| WX.thenE <| WX.thenE <| WX.blockH <| WX.thenN <| WC.seq <| WC.region <| sv (vmI rfl) <| sv (vaI rfl) <| WL.nil <| WX.thenN <| WC.ret <| WX.ret1 rfl (()) (trivial) (iv (by rw [hir])) (fun _ h => Sb.own (by repeat' (first | with_reducible exact Sb.all | exact Sb.nil | (apply Sb.cons; focus (first | ((repeat (first | with_reducible exact Tk.here | with_reducible apply Tk.there)); done) | ((repeat (first | exact Tk.here | apply Tk.there)); done))) | apply Sb.drop)) h)
theorem ex_dig {w0 : World} {A : List HProp} {c : UInt8} : Fun Tryd.prog w0 55 [u8v c] A (Ret w0 (fun _ : Unit => True) (fun _ => .bool (isDig c)) (fun _ => A)) := by
  refine Fun.enter Tryd.func55 rfl Tryd.ntmps55 rfl ?_
  refine WC.seq <| WC.region <| sv (vaB rfl) <| WL.nil <| WX.thenN <| ?_
  refine WC.cutS [(2, .bool (isDig c))] [] trivial ?_ fun ρh => ?_
  · -- expr.go:171
    refine WC.region <| sv (vmI rfl) <| svs (vge rfl rfl) (fun q1 => ?_) (fun q1 => ?_)
    ·
      exact sv (vmB rfl) <| svg rfl (vmI rfl) <| svg rfl (vle rfl rfl) <| sv (vpkt rfl) <| sv (vaB rfl) <| WL.nil <| WX.mid () trivial ⟨by unfold isDig; exact bI (by omega), trivial⟩ trivial (fun _ h => Sb.own (by repeat' (first | with_reducible exact Sb.all | exact Sb.nil | (apply Sb.cons; focus (first | ((repeat (first | with_reducible exact Tk.here | with_reducible apply Tk.there)); done) | ((repeat (first | exact Tk.here | apply Tk.there)); done))) | apply Sb.drop)) h)
    ·
      exact sv (vmB rfl) <| sng rfl <| sng rfl <| sv (vpkf rfl) <| sv (vaB rfl) <| WL.nil <| WX.mid () trivial ⟨by unfold isDig; exact bF (by omega), trivial⟩ trivial (fun _ h => Sb.own (by repeat' (first | with_reducible exact Sb.all | exact Sb.nil | (apply Sb.cons; focus (first | ((repeat (first | with_reducible exact Tk.here | with_reducible apply Tk.there)); done) | ((repeat (first | exact Tk.here | apply Tk.there)); done))) | apply Sb.drop)) h)
  exact WC.ret <| WX.ret1 rfl (()) (trivial) rfl (fun _ h => Sb.own (by repeat' (first | with_reducible exact Sb.all | exact Sb.nil | (apply Sb.cons; focus (first | ((repeat (first | with_reducible exact Tk.here | with_reducible apply Tk.there)); done) | ((repeat (first | exact Tk.here | apply Tk.there)); done))) | apply Sb.drop)) h)
theorem ex_let {w0 : World} {A : List HProp} {c : UInt8} : Fun Tryd.prog w0 59 [u8v c] A (Ret w0 (fun _ : Unit => True) (fun _ => .bool (isLet c)) (fun _ => A)) := by
  refine Fun.enter Tryd.func59 rfl Tryd.ntmps59 rfl ?_
  refine WC.seq <| WC.region <| sv (vaB rfl) <| WL.nil <| WX.thenN <| ?_
  refine WC.cutS [(2, .bool (isLet c))] [] trivial ?_ fun ρh => ?_
  · -- expr.go:183
    refine WC.region <| sv (vmI rfl) <| svs (vge rfl rfl) (fun q1 => ?_) (fun q1 => ?_)
    ·
      refine sv (vmB rfl) <| svg rfl (vmI rfl) <| svsg rfl (vle rfl rfl) (fun q2 => ?_) (fun q2 => ?_)
      ·
        exact sv (vpkt rfl) <| sv (vmB rfl) <| sng rfl <| sng rfl <| sng rfl <| sng rfl <| sng rfl <| sng rfl <| sv (vpkt rfl) <| sv (vaB rfl) <| WL.nil <| WX.mid () trivial ⟨by unfold isLet; exact bT (by omega), trivial⟩ trivial (fun _ h => Sb.own (by repeat' (first | with_reducible exact Sb.all | exact Sb.nil | (apply Sb.cons; focus (first | ((repeat (first | with_reducible exact Tk.here | with_reducible apply Tk.there)); done) | ((repeat (first | exact Tk.here | apply Tk.there)); done))) | apply Sb.drop)) h)
      ·
        refine sv (vpkt rfl) <| sv (vmB rfl) <| svg rfl (vmI rfl) <| svsg rfl (vge rfl rfl) (fun q3 => ?_) (fun q3 => ?_)
        ·
          exact svg rfl (vmB rfl) <| svg rfl (vmI rfl) <| svg rfl (vle rfl rfl) <| svg rfl (vpkt rfl) <| sv (vpkf rfl) <| sv (vaB rfl) <| WL.nil <| WX.mid () trivial ⟨by unfold isLet; exact bI (by omega), trivial⟩ trivial (fun _ h => Sb.own (by repeat' (first | with_reducible exact Sb.all | exact Sb.nil | (apply Sb.cons; focus (first | ((repeat (first | with_reducible exact Tk.here | with_reducible apply Tk.there)); done) | ((repeat (first | exact Tk.here | apply Tk.there)); done))) | apply Sb.drop)) h)
        ·
          exact svg rfl (vmB rfl) <| sng rfl <| sng rfl <| svg rfl (vpkf rfl) <| sv (vpkf rfl) <| sv (vaB rfl) <| WL.nil <| WX.mid () trivial ⟨by unfold isLet; exact bF (by omega), trivial⟩ trivial (fun _ h => Sb.own (by repeat' (first | with_reducible exact Sb.all | exact Sb.nil | (apply Sb.cons; focus (first | ((repeat (first | with_reducible exact Tk.here | with_reducible apply Tk.there)); done) | ((repeat (first | exact Tk.here | apply Tk.there)); done))) | apply Sb.drop)) h)
    ·
      refine sv (vmB rfl) <| sng rfl <| sng rfl <| sv (vpkf rfl) <| sv (vmB rfl) <| svg rfl (vmI rfl) <| svsg rfl (vge rfl rfl) (fun q4 => ?_) (fun q4 => ?_)
      ·
        exact svg rfl (vmB rfl) <| svg rfl (vmI rfl) <| svg rfl (vle rfl rfl) <| svg rfl (vpkt rfl) <| sv (vpkf rfl) <| sv (vaB rfl) <| WL.nil <| WX.mid () trivial ⟨by unfold isLet; exact bI (by omega), trivial⟩ trivial (fun _ h => Sb.own (by repeat' (first | with_reducible exact Sb.all | exact Sb.nil | (apply Sb.cons; focus (first | ((repeat (first | with_reducible exact Tk.here | with_reducible apply Tk.there)); done) | ((repeat (first | exact Tk.here | apply Tk.there)); done))) | apply Sb.drop)) h)
      ·
        exact svg rfl (vmB rfl) <| sng rfl <| sng rfl <| svg rfl (vpkf rfl) <| sv (vpkf rfl) <| sv (vaB rfl) <| WL.nil <| WX.mid () trivial ⟨by unfold isLet; exact bF (by omega), trivial⟩ trivial (fun _ h => Sb.own (by repeat' (first | with_reducible exact Sb.all | exact Sb.nil | (apply Sb.cons; focus (first | ((repeat (first | with_reducible exact Tk.here | with_reducible apply Tk.there)); done) | ((repeat (first | exact Tk.here | apply Tk.there)); done))) | apply Sb.drop)) h)
  exact WC.ret <| WX.ret1 rfl (()) (trivial) rfl (fun _ h => Sb.own (by repeat' (first | with_reducible exact Sb.all | exact Sb.nil | (apply Sb.cons; focus (first | ((repeat (first | with_reducible exact Tk.here | with_reducible apply Tk.there)); done) | ((repeat (first | exact Tk.here | apply Tk.there)); done))) | apply Sb.drop)) h)
theorem ex_part_ok {w0 : World} {A : List HProp} {r p : Nat} {S : ByteArray} {l : List UInt8} {k : Nat} (hl : l <:+ S.data.toList) (hS : S.size ≤ 4611686018427387903) (hp : p < 64) (hk : k ≤ l.length) :
    Fun Tryd.prog w0 32 [.pointer (some ⟨r, 0, none⟩), .int .i64 (k : Int)] (src r S l p :: A) (Ret w0 (fun _ : Unit => True) (fun _ => .pointer none) (fun _ => src r S (l.drop k) (p + 1) :: A)) := by
  have hll := suf_len hl
  have hats : ((S.size - (l.drop k).length : Nat) : Int) = ((S.size - (l).length : Nat) : Int) + k := by simp only [List.length_drop]; omega
  refine Fun.enter Tryd.func32 rfl Tryd.ntmps32 rfl ?_
  refine WC.seq <| WC.region <| sv (vaP rfl) <| WL.nil <| WX.thenN <| WC.seq <| WC.seq <| WC.region <| sv (vmP rfl) <| sv (vnil rfl) <| sv (vfldp fl43f2 rfl) <| sv (vldc pl3 rfl) <| sv (vadd rfl rfl (by omega)) <| sv (vnil rfl) <| sv (vfldp fl43f2 rfl) <| stp (v := .int _ _) pl3 sz3 rfl rfl rfl <| WL.nil <| WX.thenN <| WC.seq <| WC.region <| sv (vmP rfl) <| sv (vnil rfl) <| sv (vfldp fl43f2 rfl) <| sv (vldc pl3 rfl) <| sv (vgt rfl rfl) <| WL.nil <| WX.thenN <| ?_
  refine WC.ite rfl (fun h1 => ?_) (fun h1 => ?_)
  · -- then
    exact absurd h1 (by omega)
  · -- else
    exact WC.skip <| WX.thenN <| WC.seq <| WC.region <| sv (vmP rfl) <| sv (vnil rfl) <| sv (vfldp fl43f1 rfl) <| sv (vldc pl3 rfl) <| sv (vmI rfl) <| sv (vadd rfl rfl (by omega)) <| sv (vnil rfl) <| sv (vfldp fl43f1 rfl) <| stp (v := .int _ _) pl3 sz3 rfl rfl rfl <| WL.nil <| WX.thenN <| WC.seq <| WC.region <| sv (vaP rfl) <| WL.nil <| WX.thenN <| WC.ret <| WX.ret1 rfl (()) (trivial) rfl (fun w h => by unfold src; rw [hats]; exact Sb.own (by repeat' (first | with_reducible exact Sb.all | exact Sb.nil | (apply Sb.cons; focus (first | ((repeat (first | with_reducible exact Tk.here | with_reducible apply Tk.there)); done) | ((repeat (first | exact Tk.here | apply Tk.there)); done))) | apply Sb.drop)) h)
theorem ex_part_many {w0 : World} {A : List HProp} {r p : Nat} {S : ByteArray} {l : List UInt8} {k : Nat} (hp : p = 64) :
    Fun Tryd.prog w0 32 [.pointer (some ⟨r, 0, none⟩), .int .i64 (k : Int)] (src r S l p :: A) (Ret w0 (fun _ : Nat => True) (fun f => .pointer (some ⟨f, 0, none⟩)) (fun f => cel f [.int .i64 (((S.size - (l).length : Nat) : Int)), .int .i64 5] 48 :: src r S l (p + 1) :: A)) := by
  refine Fun.enter Tryd.func32 rfl Tryd.ntmps32 rfl ?_
  refine WC.seq <| WC.region <| sv (vaP rfl) <| WL.nil <| WX.thenN <| WC.seq <| WC.seq <| WC.region <| sv (vmP rfl) <| sv (vnil rfl) <| sv (vfldp fl43f2 rfl) <| sv (vldc pl3 rfl) <| sv (vadd rfl rfl (by omega)) <| sv (vnil rfl) <| sv (vfldp fl43f2 rfl) <| stp (v := .int _ _) pl3 sz3 rfl rfl rfl <| WL.nil <| WX.thenN <| WC.seq <| WC.region <| sv (vmP rfl) <| sv (vnil rfl) <| sv (vfldp fl43f2 rfl) <| sv (vldc pl3 rfl) <| sv (vgt rfl rfl) <| WL.nil <| WX.thenN <| ?_
  refine WC.ite rfl (fun h1 => ?_) (fun h1 => ?_)
  · -- then
    exact WC.seq <| WC.region <| sv (vmP rfl) <| sv (vnil rfl) <| sv (vfldp fl43f1 rfl) <| sv (vldc pl3 rfl) <| sv (vbd (ps := [(0, .int _ _), (1, (.int .i64 5))]) (cs := [_, _]) bt48 zt48 rfl (by rfl)) <| bxc (v := .agg _) (cs := [.int _ _, .int _ _]) rfl rfl fun b7 => sv (vaP rfl) <| WL.nil <| WX.thenN <| WC.ret <| WX.thenR <| WX.ret1 rfl (b7) (trivial) rfl (fun _ h => Sb.own (by repeat' (first | with_reducible exact Sb.all | exact Sb.nil | (apply Sb.cons; focus (first | ((repeat (first | with_reducible exact Tk.here | with_reducible apply Tk.there)); done) | ((repeat (first | exact Tk.here | apply Tk.there)); done))) | apply Sb.drop)) h)
  · -- else
    exact absurd (by omega) h1
theorem ex_truth {w0 : World} {A : List HProp} {b : Bool} : Fun Tryd.prog w0 40 [.bool b] A (Ret w0 (fun _ : Unit => True) (fun _ => .int .i64 (if b = true then 1 else 0)) (fun _ => A)) := by
  refine Fun.enter Tryd.func40 rfl Tryd.ntmps40 rfl ?_
  refine WC.seq <| WC.region <| sv (vaI rfl) <| WL.nil <| WX.thenN <| WC.seq <| WC.seq <| WC.region <| sv (vmB rfl) <| WL.nil <| WX.thenN <| ?_
  refine WC.iteb rfl (fun h1 => ?_) (fun h1 => ?_)
  · -- then
    exact WC.seq <| WC.region <| sv (vaI rfl) <| WL.nil <| WX.thenN <| WC.ret <| WX.thenR <| WX.ret1 rfl (()) (trivial) (iv (by rw [if_pos h1])) (fun _ h => Sb.own (by repeat' (first | with_reducible exact Sb.all | exact Sb.nil | (apply Sb.cons; focus (first | ((repeat (first | with_reducible exact Tk.here | with_reducible apply Tk.there)); done) | ((repeat (first | exact Tk.here | apply Tk.there)); done))) | apply Sb.drop)) h)
  · -- else
    exact WC.skip <| WX.thenN <| WC.seq <| WC.region <| sv (vaI rfl) <| WL.nil <| WX.thenN <| WC.ret <| WX.ret1 rfl (()) (trivial) (iv (by rw [if_neg (by rw [h1]; decide)])) (fun _ h => Sb.own (by repeat' (first | with_reducible exact Sb.all | exact Sb.nil | (apply Sb.cons; focus (first | ((repeat (first | with_reducible exact Tk.here | with_reducible apply Tk.there)); done) | ((repeat (first | exact Tk.here | apply Tk.there)); done))) | apply Sb.drop)) h)
end Go.Proofs.YtoeglkkmjmhmiaaDoor
