/-
  Statements of layer 1 as walks: bursts of four bytes are told.
-/
import Derived.Test.YtbmfcfddbcbdgaaPackLawC
import Derived.Test.YtbmfcfddbcbdgaaSlOwn
import Derived.Test.YtbmfcfddbcbdgaaPackPureB
set_option linter.unusedVariables false
set_option linter.unusedSimpArgs false
set_option maxRecDepth 4000
namespace Go.Proofs.Ytbmfcfddbcbdgaa
open Go.Sl Go.Pack Go.RowKit

theorem xor_u8 (a b : UInt8) : bXor .u8 (a.toNat : Int) (b.toNat : Int) = ((a ^^^ b).toNat : Int) := by
  rw [bXor_u rfl, ofInt_natCast, ofInt_natCast]
  have e : (BitVec.ofNat IntKind.u8.bits a.toNat ^^^ BitVec.ofNat IntKind.u8.bits b.toNat).toNat = (a ^^^ b).toNat := by
    have ha := a.toNat_lt
    have hb := b.toNat_lt
    have h8 : IntKind.u8.bits = 8 := rfl
    rw [BitVec.toNat_xor, BitVec.toNat_ofNat, BitVec.toNat_ofNat, h8, Nat.mod_eq_of_lt ha, Nat.mod_eq_of_lt hb, UInt8.toNat_xor]
  rw [e]
theorem u8s_set {l : List UInt8} {j : Nat} {c : UInt8} : (u8s l).set j (u8v c) = u8s (l.set j c) := by simp [u8s]
theorem xor_self_iff (a m : UInt8) : a ^^^ m = a ↔ m = 0 := by
  constructor
  · intro h
    have := congrArg (a ^^^ ·) h
    simpa [← UInt8.xor_assoc] using this
  · rintro rfl; simp
/-- one turn of a burst -/
theorem burst {bs L : List UInt8} {fl : Bool} {a k d : Nat} {m : UInt8} (hd : d = a + k) (hl : L.length = bs.length) (hj : ∀ j, ¬ (a ≤ j ∧ j < a + k) → L[j]? = bs[j]?) (hf : fl = true ↔ L ≠ bs) (h : d < bs.length) (h' : d < L.length) :
    (L.set d (L[d] ^^^ m)).length = bs.length ∧ (∀ j, ¬ (a ≤ j ∧ j < a + (k + 1)) → (L.set d (L[d] ^^^ m))[j]? = bs[j]?) ∧ ((fl = true ∨ m ≠ 0) ↔ L.set d (L[d] ^^^ m) ≠ bs) := by
  have e : L[d] = bs[d] := by
    have := hj d (by omega)
    rw [List.getElem?_eq_getElem h', List.getElem?_eq_getElem h] at this
    exact Option.some.inj this
  refine ⟨by simp [hl], fun j hjj => ?_, ?_⟩
  · rw [List.getElem?_set_ne (by omega)]
    exact hj j (by omega)
  · by_cases hm : m = 0
    · subst hm
      simp [hf]
    · refine ⟨fun _ he => hm ?_, fun _ => .inr hm⟩
      have h1 : (L.set d (L[d] ^^^ m))[d]? = bs[d]? := by rw [he]
      rw [List.getElem?_set_self h', List.getElem?_eq_getElem h, e] at h1
      exact (xor_self_iff _ _).1 (Option.some.inj h1)
theorem walk_tells {w0 : World} {A : List HProp} {base : Option Addr} {c : Nat} {bs ms : List UInt8} {p : Int} [hR : Reads w0 A base (u8s bs)] (hm : ms.length = 4) (hp : -9223372036854775808 ≤ p ∧ p ≤ 9223372036854775807) :
    Fun Try.prog w0 6 [.slice base bs.length c, .int .i64 p, .agg (u8s ms).toArray] A (Ret w0 (fun _ : Unit => True) (fun _ => .bool true) (fun _ => A)) := by
  refine Fun.enter Try.func6 rfl Try.ntmps6 rfl ?_
  refine WC.seq <| WC.region <| bx (v := .agg (u8s ms).toArray) rfl fun b1 => pm (A' := cel b1 (u8s ms) 34 :: A) (fun _ h => h) <| sv (vaB rfl) <| WL.nil <| WX.thenN <| WC.seq <| WC.seq <| WC.region <| sv (vmS rfl) <| sv (vlen Try.underlying22 rfl) <| sv (vgt rfl rfl) <| WL.nil <| WX.thenN <| ?_
  refine WC.ite rfl (fun h1 => ?_) (fun h1 => ?_)
  · -- then
    exact WC.seq <| WC.region <| sv (vaB rfl) <| WL.nil <| WX.thenN <| WC.ret <| WX.thenR <| WX.ret1 rfl (()) (trivial) rfl (fun w h => h.suf)
  · -- else
    refine WC.skip <| WX.thenN <| WC.seq <| WC.region <| bsl0 Try.underlying22 zt5 fun b2 => sv (vmS rfl) <| apb Try.underlying22 zt5 rfl rfl (by simp) (by simp) reads (by omega) fun base3 c3 hc3 => sv (vaS rfl) <| WL.nil <| WX.thenN <| WC.seq <| WC.region <| sv (vaB rfl) <| WL.nil <| WX.thenN <| WC.seq <| WC.seq <| WC.region <| sv (vaI rfl) <| WL.nil <| WX.thenN <| WC.block <| ?_
    refine WC.loop (ι := Nat × List UInt8 × Bool) (fun i => [(8, .bool i.2.2), (9, .int .i64 i.1)]) [(0, .slice _ _ _), (1, .int _ _), (5, _), (7, .slice _ _ _)] (fun i => row base3 c3 1 5 (u8s i.2.1) :: cel b1 (u8s ms) 34 :: A) (fun i => i.1 ≤ 4 ∧ i.2.1.length = bs.length ∧ (∀ j, ¬ (p.toNat ≤ j ∧ j < p.toNat + i.1) → i.2.1[j]? = bs[j]?) ∧ (i.2.2 = true ↔ i.2.1 ≠ bs)) (fun i => 4 - i.1) ((0, bs, false)) (⟨by omega, rfl, fun _ _ => rfl, by simp⟩) ⟨rfl, rfl, trivial⟩ ⟨rfl, rfl, rfl, rfl, trivial⟩ (fun _ h => h) ?_
    rintro ⟨k, L, fl⟩ ⟨hk, hl, hj, hf⟩ ρh
    dsimp only at hk hl hj hf ⊢
    refine WC.seq <| WC.seq <| WC.region <| sv (vmI rfl) <| sv (vlt rfl rfl) <| WL.nil <| WX.thenN <| ?_
    refine WC.ite rfl (fun h2 => ?_) (fun h2 => ?_)
    · -- then
      refine WC.skip <| WX.thenN <| WC.seq <| WC.block <| ?_
      refine WC.cut0 [(29, .bool (decide (0 ≤ p ∧ p < bs.length - k)))] [(0, .slice _ _ _), (1, .int _ _), (5, _), (7, .slice _ _ _), (8, .bool _), (9, .int _ _)] (row base3 c3 1 5 (u8s L) :: cel b1 (u8s ms) 34 :: A) ⟨rfl, rfl, rfl, rfl, rfl, rfl, trivial⟩ ?_ fun ρh => ?_
      · -- law.go:152
        refine WC.region <| sv (vmI rfl) <| svs (vge rfl rfl) (fun q1 => ?_) (fun q1 => ?_)
        ·
          exact sv (vmB rfl) <| svg rfl (vmI rfl) <| svg rfl (vmS rfl) <| svg rfl (vlen Try.underlying22 rfl) <| svg rfl (vmI rfl) <| svg rfl (vsub rfl rfl (by omega)) <| svg rfl (vlt rfl rfl) <| sv (vpkt rfl) <| WL.nil <| WX.mid () trivial ⟨bI (by first | omega | simp_all | grind), trivial⟩ ⟨rfl, rfl, rfl, rfl, rfl, rfl, trivial⟩ (fun _ h => h)
        ·
          exact sv (vmB rfl) <| sng rfl <| sng rfl <| sng rfl <| sng rfl <| sng rfl <| sng rfl <| sv (vpkf rfl) <| WL.nil <| WX.mid () trivial ⟨bF (by first | omega | simp_all | grind), trivial⟩ ⟨rfl, rfl, rfl, rfl, rfl, rfl, trivial⟩ (fun _ h => h)
      refine WC.ite rfl (fun h3 => ?_) (fun h3 => ?_)
      · -- then
        have hk4 : k < 4 := by omega
        have hpk : (p + (k : Int)).toNat = p.toNat + k := by omega
        have hpl : (p + (k : Int)).toNat < L.length := by omega
        have hkm : k < ms.length := by omega
        have hB := burst (m := ms[k]) hpk hl hj hf (by omega) hpl
        have hne : ms[k] ≠ 0 ↔ (ms[k].toNat : Int) ≠ 0 := by
          rw [Ne, Ne, ← UInt8.toNat_inj]; simp
        have hxx := xor_u8 L[(p + (k : Int)).toNat] ms[k]
        refine WC.seq <| WC.plan (.bar [0, 1, 2, 3, 4, 5, 6, 7, 8, 9, 10, 11, 12, 13, 14] 15 (.done [])) rfl (by kernel_rfl) <| WPl.bar trivial <| dv (fun g => (vmS rfl)) <| dv (fun g => (vmI rfl)) <| dv (fun g => (vmI rfl)) <| dv (fun g => (vadd rfl rfl (by omega))) <| dv (fun g => (vmS rfl)) <| dv (fun g => (vmI rfl)) <| dv (fun g => (vmI rfl)) <| dv (fun g => (vadd rfl rfl (by omega))) <| dv (fun g => (vixb Try.underlying22 sz5 rfl rfl (by omega) (by omega) (by omega))) <| dv (fun g => (vldb (j := (p + (k : Int)).toNat) pl5 rfl (by omega))) <| dv (fun g => (vmI rfl)) <| dv (fun g => (vixa1 Try.underlying34 sz5 rfl rfl (by omega) (by omega))) <| dv (fun g => (vldx pl5 rfl (by simpa [u8v] using u8s_at hkm))) <| dv (fun g => (vxor rfl rfl)) <| dv (fun g => (vixb Try.underlying22 sz5 rfl rfl (by omega) (by omega) (by omega))) <| WD.eff rfl <| str (v := u8v (L[(p + (k : Int)).toNat] ^^^ ms[k])) (j := (p + (k : Int)).toNat) pl5 sz5 rfl (by unfold u8v; rw [← hxx]; rfl) rfl (by simpa using hpl) <| WL.nil <| WX.brT <| WPl.fin (trivial) <| WD.nil <| WX.thenN <| WC.region <| svb (vmB rfl) (fun q2 => ?_) (fun q2 => ?_)
        ·
          exact sv (vmB rfl) <| sng rfl <| sng rfl <| sng rfl <| sng rfl <| sv (vpkt rfl) <| sv (vaB rfl) <| WL.nil <| WX.blockN <| WX.thenN <| WC.region <| sv (vmI rfl) <| sv (vadd rfl rfl (by omega)) <| sv (vaI rfl) <| WL.nil <| WX.again ((k + 1, L.set (p + (k : Int)).toNat (L[(p + (k : Int)).toNat] ^^^ ms[k]), true)) (⟨by dsimp only; omega, hB.1, hB.2.1, by rw [← hB.2.2]; simp [q2]⟩) (by omega) ⟨rfl, rfl, trivial⟩ ⟨rfl, rfl, rfl, rfl, trivial⟩ (fun w h => by rw [← u8s_set]; exact h)
        ·
          exact sv (vmB rfl) <| svg rfl (vmI rfl) <| svg rfl (vixa1 Try.underlying34 sz5 rfl rfl (by omega) (by omega)) <| svg rfl (vldx pl5 rfl (by simpa [u8v] using u8s_at hkm)) <| svg rfl (vne rfl rfl) <| sv (vpkf rfl) <| sv (vaB rfl) <| WL.nil <| WX.blockN <| WX.thenN <| WC.region <| sv (vmI rfl) <| sv (vadd rfl rfl (by omega)) <| sv (vaI rfl) <| WL.nil <| WX.again ((k + 1, L.set (p + (k : Int)).toNat (L[(p + (k : Int)).toNat] ^^^ ms[k]), decide ((ms[k].toNat : Int) ≠ 0))) (⟨by dsimp only; omega, hB.1, hB.2.1, by rw [← hB.2.2, hne]; simp [q2]⟩) (by omega) ⟨rfl, rfl, trivial⟩ ⟨rfl, rfl, rfl, rfl, trivial⟩ (fun w h => by rw [← u8s_set]; exact h)
      · -- else
        exact WC.skip <| WX.blockN <| WX.thenN <| WC.region <| sv (vmI rfl) <| sv (vadd rfl rfl (by omega)) <| sv (vaI rfl) <| WL.nil <| WX.again ((k + 1, L, fl)) (⟨by dsimp only; omega, hl, fun j h => hj j (by dsimp only at h; omega), hf⟩) (by omega) ⟨rfl, rfl, trivial⟩ ⟨rfl, rfl, rfl, rfl, trivial⟩ (fun _ h => h)
    · -- else
      have hk4 : k = 4 := by omega
      subst hk4
      have hT : decide ((sum bs : Int) ≠ sum L) = fl := by
        have h1 : sum bs ≠ sum L ↔ L ≠ bs := ⟨fun h he => h (by rw [he]), fun h he => h (sum_tell hl (fun j hjj => hj j hjj) he.symm)⟩
        have h2 : ((sum bs : Int) ≠ sum L) ↔ fl = true := by rw [hf, ← h1]; omega
        cases fl <;> simp at h2 ⊢ <;> omega
      have hsum := pack_sum (w0 := w0) (A := row base3 c3 1 5 (u8s L) :: cel b1 (u8s ms) 34 :: A) (base := base3) (c := c3) (bs := L) (by omega)
      rw [show L.length = 0 + bs.length by omega] at hsum
      refine WC.exit <| WX.thenE <| WX.thenE <| WX.blockH <| WX.thenN <| ?_
      refine WC.cut0 [(6, .bool true)] [] (A) trivial ?_ fun ρh => ?_
      · -- law.go:157
        exact WC.region <| cl (law_awake) ct13 rfl fun _ _ => sv (vmB rfl) <| svg rfl (vmS rfl) <| gy rfl <| cl (pack_sum (by omega)) ct17 rfl fun _ _ => svg rfl (vmS rfl) <| gy rfl <| cl (hsum) ct17 rfl fun _ _ => svg rfl (vne rfl rfl) <| svg rfl (vmB rfl) <| svg rfl (vT (veqb Try.underlying4 rfl rfl) (hT)) <| sv (vpkt rfl) <| sv (vaB rfl) <| WL.nil <| WX.mid () trivial ⟨rfl, trivial⟩ trivial (fun w h => h.suf)
      exact WC.ret <| WX.ret1 rfl (()) (trivial) rfl (fun _ h => h)
end Go.Proofs.Ytbmfcfddbcbdgaa
