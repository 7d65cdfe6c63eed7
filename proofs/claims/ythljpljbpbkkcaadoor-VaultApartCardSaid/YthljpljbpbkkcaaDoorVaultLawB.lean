/-
  Layer 16: a script's calls.
-/
import Derived.Test.YthljpljbpbkkcaaDoorVaultLawA
import Derived.Test.YthljpljbpbkkcaaDoorSlAgg
set_option linter.unusedVariables false
set_option linter.unusedSimpArgs false
set_option maxRecDepth 4000
namespace Go.Proofs.YthljpljbpbkkcaaDoor
open Go.Sl Go.RowKit Go.Pack Go.Vault Go.Journal

abbrev AV := Int × Int × Int × ByteArray × (Int × Int × Unit) × Sla UInt8 × Unit
abbrev AV.k (a : AV) : PK := ⟨a.2.2.2.1, a.2.1, a.2.2.2.2.1.1, a.2.2.2.2.1.2.1⟩
abbrev AV.b (a : AV) : Sla UInt8 := a.2.2.2.2.2.1
abbrev vcel (k n q : Int) (f : ByteArray) (pk pn : Int) (b : Sla UInt8) : List Value := [.int .i64 k, .int .i64 n, .int .i64 q, .string f, .int .i64 pk, .int .i64 pn, .slice b.base b.xs.length b.cap]
abbrev cellV (a : AV) : List Value := vcel a.1 a.2.1 a.2.2.1 a.2.2.2.1 a.2.2.2.2.1.1 a.2.2.2.2.1.2.1 a.2.2.2.2.2.1
abbrev gV (w : World) (a : AV) : Prop := PkOk a.k ∧ Rd w a.b.base (u8s a.b.xs)
theorem rd_someV {w0 w : World} {A : List HProp} {base : Option Addr} {vs : List Value} (hp : 0 < vs.length) (hR : RdC w0 A base vs) (h : Own w0 A w) : base.isSome = true := by
  obtain ⟨a, rfl, _⟩ := hR w h 0 vs[0] (List.getElem?_eq_getElem hp)
  rfl
theorem drop_getD {l m : List UInt8} {i : Nat} (h : l.drop i = m.drop i) : l.getD i 0 = m.getD i 0 := by
  have := congrArg (fun x => x[0]?.getD 0) h
  simpa [List.getElem?_drop] using this
theorem u8s_set0 {l : List UInt8} {j : Nat} {c : UInt8} : (u8s l).set j (u8v c) = u8s (l.set j c) := by simp [u8s]
theorem u8s_len (l : List UInt8) : (u8s l).length = l.length := by simp [u8s]
theorem law_small {w0 : World} {A : List HProp} {o : Sla AV} (ho : Rd w0 o.base (o.xs.flatMap cellV)) :
    Fun Tryd.prog w0 7 [.slice o.base o.xs.length o.cap] A (Ret w0 (fun _ : Unit => True) (fun _ => .bool (decide (o.xs.length ≤ 120 ∧ ∀ a ∈ o.xs, a.b.xs.length ≤ 256 ∧ a.k.flow.size ≤ 64))) (fun _ => A)) := by
  have hfl : (o.xs.flatMap cellV).length = o.xs.length * 7 := flat_len (fun _ _ => rfl)
  refine Fun.enter Tryd.func7 rfl Tryd.ntmps7 rfl ?_
  refine WC.seq <| WC.region <| sv (vaB rfl) <| WL.nil <| WX.thenN <| WC.seq <| WC.seq <| WC.region <| sv (vmS rfl) <| sv (vlen Tryd.underlying22 rfl) <| sv (vgt rfl rfl) <| WL.nil <| WX.thenN <| ?_
  refine WC.ite rfl (fun h1 => ?_) (fun h1 => ?_)
  · -- then
    exact WC.seq <| WC.region <| sv (vaB rfl) <| WL.nil <| WX.thenN <| WC.ret <| WX.thenR <| WX.ret1 rfl (()) (trivial) (bF (fun h => by omega)) (fun _ h => Sb.own (by repeat' (first | with_reducible exact Sb.all | exact Sb.nil | (apply Sb.cons; focus (first | ((repeat (first | with_reducible exact Tk.here | with_reducible apply Tk.there)); done) | ((repeat (first | exact Tk.here | apply Tk.there)); done))) | apply Sb.drop)) h)
  · -- else
    refine WC.skip <| WX.thenN <| WC.seq <| WC.seq <| WC.region <| sv (vaI rfl) <| WL.nil <| WX.thenN <| WC.block <| ?_
    refine WC.loopS (ι := Nat) (fun i => [(3, .int .i64 i)]) [(0, .slice _ _ _)] (fun i => i ≤ o.xs.length ∧ ∀ a ∈ o.xs.take i, a.b.xs.length ≤ 256 ∧ a.k.flow.size ≤ 64) (fun i => o.xs.length - i) (0) (⟨Nat.zero_le _, fun a h => by rw [List.take_zero] at h; cases h⟩) ⟨rfl, trivial⟩ ⟨rfl, trivial⟩ ?_
    intro i hi ρh
    refine WC.seq <| WC.seq <| WC.region <| sv (vmI rfl) <| sv (vmS rfl) <| sv (vlen Tryd.underlying22 rfl) <| sv (vlt rfl rfl) <| WL.nil <| WX.thenN <| ?_
    refine WC.ite rfl (fun h2 => ?_) (fun h2 => ?_)
    · -- then
      have hil : i < o.xs.length := by omega
      obtain ⟨a, ha⟩ : ∃ a, o.xs[i]? = some a := ⟨_, List.getElem?_eq_getElem hil⟩
      have hpos : 0 < (o.xs.flatMap cellV).length := by omega
      have hf5 : (o.xs.flatMap cellV)[((i : Int)).toNat * 7 + 6]? = some (.slice a.b.base a.b.xs.length a.b.cap) := by rw [Int.toNat_natCast, flat_at (f := cellV) (s := 7) (fun _ _ => rfl) hil (by omega), (List.getElem?_eq_some_iff.1 ha).2]; rfl
      have hf3 : (o.xs.flatMap cellV)[((i : Int)).toNat * 7 + 3]? = some (.string a.k.flow) := by rw [Int.toNat_natCast, flat_at (f := cellV) (s := 7) (fun _ _ => rfl) hil (by omega), (List.getElem?_eq_some_iff.1 ha).2]; rfl
      have hRi : Reads w0 A o.base (o.xs.flatMap cellV) := ⟨RdC.old ho⟩
      refine WC.known (fun w h => rd_someV hpos hRi.rd h) fun hb => ?_
      refine WC.skip <| WX.thenN <| WC.seq <| WC.block <| ?_
      refine WC.cutS [(28, .bool (decide (¬ (a.b.xs.length ≤ 256 ∧ a.k.flow.size ≤ 64))))] [(0, .slice _ _ _), (3, .int _ _)] ⟨rfl, rfl, trivial⟩ ?_ fun ρh => ?_
      · -- law.go:29
        refine WC.region <| sv (vmS rfl) <| sv (vmI rfl) <| sv (vix Tryd.underlying22 sz36 rfl rfl (by omega) (by omega) reads (hpos)) <| sv (vfldr (hb) fl36f5 rfl) <| sv (vldo pl25 rfl reads (hf5)) <| sv (vlen Tryd.underlying25 rfl) <| svs (vgt rfl rfl) (fun q1 => ?_) (fun q1 => ?_)
        ·
          exact sv (vmB rfl) <| sng rfl <| sng rfl <| sng rfl <| sng rfl <| sng rfl <| sng rfl <| sng rfl <| sv (vpkt rfl) <| WL.nil <| WX.mid () trivial ⟨bT (by first | omega | simp_all | grind), trivial⟩ ⟨rfl, rfl, trivial⟩ (fun _ h => Sb.own (by repeat' (first | with_reducible exact Sb.all | exact Sb.nil | (apply Sb.cons; focus (first | ((repeat (first | with_reducible exact Tk.here | with_reducible apply Tk.there)); done) | ((repeat (first | exact Tk.here | apply Tk.there)); done))) | apply Sb.drop)) h)
        ·
          exact sv (vmB rfl) <| svg rfl (vmS rfl) <| svg rfl (vmI rfl) <| svg rfl (vix Tryd.underlying22 sz36 rfl rfl (by omega) (by omega) reads (hpos)) <| svg rfl (vfldr (hb) fl36f3 rfl) <| svg rfl (vldo pl9 rfl reads (hf3)) <| svg rfl (vlens Tryd.underlying9 rfl) <| svg rfl (vgt rfl rfl) <| sv (vpkf rfl) <| WL.nil <| WX.mid () trivial ⟨bI (by first | omega | simp_all | grind), trivial⟩ ⟨rfl, rfl, trivial⟩ (fun _ h => Sb.own (by repeat' (first | with_reducible exact Sb.all | exact Sb.nil | (apply Sb.cons; focus (first | ((repeat (first | with_reducible exact Tk.here | with_reducible apply Tk.there)); done) | ((repeat (first | exact Tk.here | apply Tk.there)); done))) | apply Sb.drop)) h)
      refine WC.iteb rfl (fun h3 => ?_) (fun h3 => ?_)
      · -- then
        exact WC.seq <| WC.region <| sv (vaB rfl) <| WL.nil <| WX.thenN <| WC.ret <| WX.blockR <| WX.thenR <| WX.thenR <| WX.blockR <| WX.thenR <| WX.ret1 rfl (()) (trivial) (bF (fun h => by exact of_decide_eq_true h3 (h.2 a (List.mem_of_getElem? ha)))) (fun _ h => Sb.own (by repeat' (first | with_reducible exact Sb.all | exact Sb.nil | (apply Sb.cons; focus (first | ((repeat (first | with_reducible exact Tk.here | with_reducible apply Tk.there)); done) | ((repeat (first | exact Tk.here | apply Tk.there)); done))) | apply Sb.drop)) h)
      · -- else
        exact WC.skip <| WX.blockN <| WX.thenN <| WC.region <| sv (vmI rfl) <| sv (vadd rfl rfl (by omega)) <| sv (vaI rfl) <| WL.nil <| WX.again (i + 1) (⟨by omega, fun c hc => by rw [List.take_add_one, ha] at hc; exact (List.mem_append.1 hc).elim (hi.2 c) (fun hc => by have : c = a := (by simpa using hc); subst this; exact Decidable.not_not.1 (of_decide_eq_false h3))⟩) (by omega) ⟨rfl, trivial⟩ ⟨rfl, trivial⟩ (fun _ h => Sb.own (by repeat' (first | with_reducible exact Sb.all | exact Sb.nil | (apply Sb.cons; focus (first | ((repeat (first | with_reducible exact Tk.here | with_reducible apply Tk.there)); done) | ((repeat (first | exact Tk.here | apply Tk.there)); done))) | apply Sb.drop)) h)
    · -- else
      exact WC.exit <| WX.thenE <| WX.thenE <| WX.blockH <| WX.thenN <| WC.seq <| WC.region <| sv (vaB rfl) <| WL.nil <| WX.thenN <| WC.ret <| WX.ret1 rfl (()) (trivial) (bT ⟨by omega, by have := hi.2; rwa [List.take_of_length_le (by omega)] at this⟩) (fun _ h => Sb.own (by repeat' (first | with_reducible exact Sb.all | exact Sb.nil | (apply Sb.cons; focus (first | ((repeat (first | with_reducible exact Tk.here | with_reducible apply Tk.there)); done) | ((repeat (first | exact Tk.here | apply Tk.there)); done))) | apply Sb.drop)) h)
def callP (kind : Int) (k : PK) (b : List UInt8) (d : VD) : VD × Int := if kind = 2 then dropP k.flow k.num d else putP k b d
theorem v_put_l {w0 : World} {A : List HProp} {v dk c m l : Nat} {d d' : VD} {k : PK} {e : Int} {base : Option Addr} {bs : List UInt8} [hR : Reads w0 A base (u8s bs)] (hl : l = bs.length) (h : putP k bs d = (d', e)) (hk : PkOk k) (hf : k.flow.size ≤ 4096) (hb : bs.length ≤ 4096) (hm : m ≤ 1700) :
    Fun Tryd.prog w0 10 [.pointer (some ⟨v, 0, none⟩), .string k.flow, .int .i64 k.num, .agg #[.int .i64 k.kind, .int .i64 k.n], .slice base l c] (vcm v dk d m :: A) (Ret w0 (fun _ : Unit => True) (fun _ => .int .i64 e) (fun _ => vcm v dk d' (m + 1) :: A)) := by subst hl; exact v_put_at h hk hf hb hm
theorem law_callx {w0 : World} {A : List HProp} {v dk m : Nat} {kind n q pk pn : Int} {f : ByteArray} {b : Sla UInt8} {d d' : VD} {e : Int} (h : callP kind ⟨f, n, pk, pn⟩ b.xs d = (d', e)) (hk : PkOk ⟨f, n, pk, pn⟩) (hf : f.size ≤ 4096) (hb : b.xs.length ≤ 4096) (hm : m ≤ 1700) (hR : RdC w0 A b.base (u8s b.xs)) :
    Fun Tryd.prog w0 12 [.pointer (some ⟨v, 0, none⟩), .agg (vcel kind n q f pk pn b).toArray] (vcm v dk d m :: A) (Ret w0 (fun _ : Unit => True) (fun _ => .int .i64 e) (fun _ => vcm v dk d' (m + 1) :: A)) := by
  refine Fun.enter Tryd.func12 rfl Tryd.ntmps12 rfl ?_
  refine WC.seq <| WC.region <| bxc (v := .agg _) (cs := [.int _ _, .int _ _, .int _ _, .string _, .int _ _, .int _ _, .slice _ _ _]) rfl rfl fun b1 => sv (vaI rfl) <| WL.nil <| WX.thenN <| WC.seq <| WC.seq <| WC.region <| sv (vfldpz fl36f0 rfl) <| sv (vldc pl3 rfl) <| sv (veq rfl rfl) <| WL.nil <| WX.thenN <| ?_
  refine WC.ite rfl (fun h1 => ?_) (fun h1 => ?_)
  · -- then
    have hd : dropP f n d = (d', e) := by rw [← h]; unfold callP; rw [if_pos h1]
    refine WC.seq <| WC.region <| sv (vmP rfl) <| sv (vfldp fl36f3 rfl) <| sv (vldc pl9 rfl) <| sv (vfldp fl36f1 rfl) <| sv (vldc pl3 rfl) <| clx (by repeat' (first | with_reducible exact Sb.all | exact Sb.nil | (apply Sb.cons; focus (first | ((repeat (first | with_reducible exact Tk.here | with_reducible apply Tk.there)); done) | ((repeat (first | exact Tk.here | apply Tk.there)); done))) | apply Sb.drop)) (v_drop_at hd hf hk.num hm) ct15 rfl fun r5 hr5 => ?_
    exact sv (vaI rfl) <| WL.nil <| WX.thenN <| WC.ret <| WX.thenR <| WX.ret1 rfl (()) (trivial) rfl (fun _ h => Sb.own (by repeat' (first | with_reducible exact Sb.all | exact Sb.nil | (apply Sb.cons; focus (first | ((repeat (first | with_reducible exact Tk.here | with_reducible apply Tk.there)); done) | ((repeat (first | exact Tk.here | apply Tk.there)); done))) | apply Sb.drop)) h)
  · -- else
    have hd : putP ⟨f, n, pk, pn⟩ b.xs d = (d', e) := by rw [← h]; unfold callP; rw [if_neg h1]
    refine WC.skip <| WX.thenN <| WC.seq <| WC.region <| bsl0 Tryd.underlying25 zt5 fun b6 => sv (vfldp fl36f5 rfl) <| sv (vldc pl25 rfl) <| pm (fun _ h => (show Own w0 (row (some ⟨b6, 0, none⟩) 0 1 5 (u8s []) :: cel b1 (vcel kind n q f pk pn b) 36 :: vcm v dk d m :: A) _ from h)) <| apb Tryd.underlying25 zt5 rfl rfl rfl rfl (hR.mono fun _ h => h.tail.tail.tail) (by omega) fun base8 c8 hc8 =>sv (vaS rfl) <| WL.nil <| WX.thenN <| WC.seq <| WC.region <| sv (vmP rfl) <| sv (vfldp fl36f3 rfl) <| sv (vldc pl9 rfl) <| sv (vfldp fl36f1 rfl) <| sv (vldc pl3 rfl) <| sv (vfldp fl36f4 rfl) <| sv (vldap ag24 sz24 rfl (cs := [.int .i64 pk, .int .i64 pn]) rfl rfl (by decide)) <| sv (vmS rfl) <| clx (by repeat' (first | with_reducible exact Sb.all | exact Sb.nil | (apply Sb.cons; focus (first | ((repeat (first | with_reducible exact Tk.here | with_reducible apply Tk.there)); done) | ((repeat (first | exact Tk.here | apply Tk.there)); done))) | apply Sb.drop)) (v_put_l (k := ⟨f, n, pk, pn⟩) (bs := b.xs) (by simp) hd hk hf hb hm) ct10 rfl fun r12 hr12 => ?_
    refine sv (vaI rfl) <| WL.nil <| WX.thenN <| WC.seq <| WC.seq <| WC.region <| sv (vaI rfl) <| WL.nil <| WX.thenN <| WC.block <| ?_
    refine WC.loop (ι := Nat × List UInt8) (fun i => [(7, .int .i64 i.1)]) [(3, _), (5, .slice _ _ _), (6, .int _ _)] (fun i => row base8 c8 1 5 (u8s i.2) :: vcm v dk d' (m + 1) :: cel b1 (vcel kind n q f pk pn b) 36 :: A) (fun i => i.1 ≤ b.xs.length ∧ i.2.length = b.xs.length ∧ i.2.drop i.1 = b.xs.drop i.1) (fun i => b.xs.length - i.1) ((0, b.xs)) (⟨Nat.zero_le _, rfl, rfl⟩) ⟨rfl, trivial⟩ ⟨rfl, rfl, rfl, trivial⟩ (fun _ h => Sb.own (by repeat' (first | with_reducible exact Sb.all | exact Sb.nil | (apply Sb.cons; focus (first | ((repeat (first | with_reducible exact Tk.here | with_reducible apply Tk.there)); done) | ((repeat (first | exact Tk.here | apply Tk.there)); done))) | apply Sb.drop)) h) ?_
    rintro ⟨i, l⟩ ⟨hi1, hi2, hi3⟩ ρh
    dsimp only at hi1 hi2 hi3 ⊢
    refine WC.seq <| WC.seq <| WC.region <| sv (vmI rfl) <| sv (vmS rfl) <| sv (vlen Tryd.underlying25 rfl) <| sv (vlt rfl rfl) <| WL.nil <| WX.thenN <| ?_
    refine WC.ite rfl (fun h2 => ?_) (fun h2 => ?_)
    · -- then
      refine WC.skip <| WX.thenN <| WC.seq <| WC.block <| WC.seq <| WC.seq <| WC.draws rfl (by kernel_rfl) <| qv (vmS rfl) <| qv (vmI rfl) <| qv (vix1 Tryd.underlying25 sz5 rfl rfl (by omega) (by omega) (RdC.of_row (c := c8) (s := 1) (e := 5) (vs := u8s l) (by simp)) (by rw [u8s_len]; omega)) <| qv (vldo pl5 rfl (RdC.of_row (c := c8) (s := 1) (e := 5) (vs := u8s l) (by simp)) (u8s_getD (by omega))) <| qv (vfldp fl36f5 rfl) <| qv (vldc pl25 rfl) <| qv (vmI rfl) <| qv (vix1 Tryd.underlying25 sz5 rfl rfl (by omega) (by omega) (hR.mono fun _ h => h.tail.tail.tail) (by rw [u8s_len]; omega)) <| qv (vldo pl5 rfl (hR.mono fun _ h => h.tail.tail.tail) (u8s_getD (by omega))) <| qv (vne rfl rfl) <| WQ.nil <| WX.thenN <| ?_
      refine WC.ite rfl (fun h3 => ?_) (fun h3 => ?_)
      · -- then
        exact absurd (congrArg (fun c : UInt8 => (c.toNat : Int)) (drop_getD hi3)) h3
      · -- else
        exact WC.skip <| WX.thenN <| WC.region <| sv (vmS rfl) <| sv (vmI rfl) <| sv (vix1 Tryd.underlying25 sz5 rfl rfl (by omega) (by omega) (RdC.of_row (c := c8) (s := 1) (e := 5) (vs := u8s l) (by simp)) (by rw [u8s_len]; omega)) <| strp (v := .int .u8 55) pl5 sz5 rfl rfl rfl (by rw [u8s_len]; omega) <| WL.nil <| WX.blockN <| WX.thenN <| WC.region <| sv (vmI rfl) <| sv (vadd rfl rfl (by omega)) <| sv (vaI rfl) <| WL.nil <| WX.again ((i + 1, l.set i 55)) (⟨by omega, by rw [List.length_set]; exact hi2, by rw [List.drop_set_of_lt (by omega), ← List.drop_drop, hi3, List.drop_drop]⟩) (by omega) ⟨rfl, trivial⟩ ⟨rfl, rfl, rfl, trivial⟩ (fun w h => by rw [← u8s_set0]; exact Sb.own (by repeat' (first | with_reducible exact Sb.all | exact Sb.nil | (apply Sb.cons; focus (first | ((repeat (first | with_reducible exact Tk.here | with_reducible apply Tk.there)); done) | ((repeat (first | exact Tk.here | apply Tk.there)); done))) | apply Sb.drop)) h)
    · -- else
      exact WC.exit <| WX.thenE <| WX.thenE <| WX.blockH <| WX.thenN <| WC.seq <| WC.region <| sv (vmI rfl) <| sv (vaI rfl) <| WL.nil <| WX.thenN <| WC.ret <| WX.ret1 rfl (()) (trivial) rfl (fun _ h => Sb.own (by repeat' (first | with_reducible exact Sb.all | exact Sb.nil | (apply Sb.cons; focus (first | ((repeat (first | with_reducible exact Tk.here | with_reducible apply Tk.there)); done) | ((repeat (first | exact Tk.here | apply Tk.there)); done))) | apply Sb.drop)) h)
theorem law_call {w0 : World} {A : List HProp} {v dk m : Nat} {a : AV} {d d' : VD} {e : Int} (h : callP a.1 a.k a.b.xs d = (d', e)) (hk : PkOk a.k) (hf : a.k.flow.size ≤ 4096) (hb : a.b.xs.length ≤ 4096) (hm : m ≤ 1700) (hR : RdC w0 A a.b.base (u8s a.b.xs)) :
    Fun Tryd.prog w0 12 [.pointer (some ⟨v, 0, none⟩), .agg (cellV a).toArray] (vcm v dk d m :: A) (Ret w0 (fun _ : Unit => True) (fun _ => .int .i64 e) (fun _ => vcm v dk d' (m + 1) :: A)) :=
  law_callx h hk hf hb hm hR
end Go.Proofs.YthljpljbpbkkcaaDoor
