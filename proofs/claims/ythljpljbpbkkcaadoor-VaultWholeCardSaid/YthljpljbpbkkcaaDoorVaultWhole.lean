/-
  Layer 16: which parts of a checkpoint are there: counted.
-/
import Derived.Test.YthljpljbpbkkcaaDoorVaultSpecG
import Derived.Test.YthljpljbpbkkcaaDoorVaultLawA
import Derived.Test.YthljpljbpbkkcaaDoorVaultLawB
set_option linter.unusedVariables false
set_option linter.unusedSimpArgs false
set_option maxRecDepth 4000
namespace Go.Proofs.YthljpljbpbkkcaaDoor
open Go.Sl Go.RowKit Go.Pack Go.Vault Go.Journal

/-- the n-th part of a checkpoint of so many partitions -/
def kkW (parts : Int) (n : Nat) : PK := if (n : Int) < parts then ⟨awF, 7, 1, n⟩ else ⟨awF, 7, 2, n - parts⟩
theorem kkW_inj {parts : Int} {m n : Nat} (h : kkW parts m = kkW parts n) : m = n := by
  unfold kkW at h
  split at h <;> split at h <;> simp only [PK.mk.injEq, true_and] at h <;> omega
theorem kkW_flow (parts : Int) (n : Nat) : (kkW parts n).flow = awF := by unfold kkW; split <;> rfl
theorem kkW_num (parts : Int) (n : Nat) : (kkW parts n).num = 7 := by unfold kkW; split <;> rfl
theorem kkW_may {parts : Int} {n : Nat} (hp : 1 ≤ parts ∧ parts ≤ 16) (hn : (n : Int) < parts + 16) : mayP (kkW parts n).kind (kkW parts n).n := by
  unfold kkW mayP
  split
  · dsimp only; omega
  · dsimp only; omega
theorem kkW_ok {parts : Int} {n : Nat} (hp : 1 ≤ parts ∧ parts ≤ 16) (hn : (n : Int) < parts + 16) : PkOk (kkW parts n) := by
  have h := kkW_may hp hn
  unfold mayP at h
  exact ⟨by rw [kkW_flow]; decide, by rw [kkW_num]; decide, by omega, by omega⟩
theorem whyPut_eq {d : VD} {k : PK} (h1 : vName k.flow) (h2 : cntP k.num) (h3 : mayP k.kind k.n) (h4 : ¬ k.num < d.floors k.flow) : whyPut d k = (0, (d.parts k).isNone) := by
  unfold whyPut
  rw [if_neg (fun h => h h1), if_neg (fun h => h ⟨h2, h3⟩), if_neg h4]
structure WI (parts out i0 : Int) (p : Nat → Bool) (d : VD) : Prop where
  fl : ∀ f, d.floors f = 0
  ps : ∀ k, (d.parts k).isSome = true ↔ ∃ n : Nat, (n : Int) < parts + 16 ∧ p n = true ∧ k = kkW parts n
  no : ∀ n : Nat, p n = true → (n : Int) ≠ out ∧ (n : Int) < parts + 16
  pr : ∀ n : Nat, (n : Int) < i0 → (n : Int) ≠ out → p n = true
theorem WI.new {parts out i0 : Int} (h : i0 ≤ 0) : WI parts out i0 (fun _ => false) VD.new :=
  ⟨fun _ => rfl, fun k => ⟨fun h => absurd h (by show ¬ (none : Option (List UInt8)).isSome = true; decide), fun h => by obtain ⟨n, _, h, _⟩ := h; cases h⟩, fun n hn => (by cases hn), fun n hn ho => by omega⟩
def addW (p : Nat → Bool) (n : Nat) : Nat → Bool := fun m => decide (m = n) || p m
theorem WI.put {parts out i0 : Int} {p : Nat → Bool} {d : VD} {n : Nat} {b : List UInt8} (h : WI parts out i0 p d) (hp : 1 ≤ parts ∧ parts ≤ 16) (hn : (n : Int) < parts + 16) (ho : (n : Int) ≠ out) (hi : 0 ≤ i0 → (n : Int) = i0) : ∃ d', putP (kkW parts n) b d = (d', 0) ∧ WI parts out (i0 + 1) (addW p n) d' := by
  have hw : whyPut d (kkW parts n) = (0, (d.parts (kkW parts n)).isNone) := whyPut_eq (by rw [kkW_flow]; decide) (by rw [kkW_num]; decide) (kkW_may hp hn) (by rw [kkW_num, h.fl]; decide)
  have hpr : ∀ m : Nat, (m : Int) < i0 + 1 → (m : Int) ≠ out → addW p n m = true := fun m hm ho => by
    unfold addW
    by_cases hmn : m = n
    · rw [decide_eq_true hmn]; rfl
    · rw [h.pr m (by omega) ho, Bool.or_true]
  have hno : ∀ m : Nat, addW p n m = true → (m : Int) ≠ out ∧ (m : Int) < parts + 16 := fun m hm => by
    unfold addW at hm
    by_cases hmn : m = n
    · subst hmn; exact ⟨ho, hn⟩
    · rw [decide_eq_false hmn, Bool.false_or] at hm; exact h.no m hm
  unfold putP actP
  rw [hw, if_neg (fun h => h rfl)]
  cases hd : d.parts (kkW parts n) with
  | none =>
    refine ⟨putD d (kkW parts n) b, by rw [if_neg (show ¬ (none : Option (List UInt8)).isNone = false by decide)], h.fl, fun k => ?_, hno, hpr⟩
    show (if k = kkW parts n then some b else d.parts k).isSome = true ↔ _
    by_cases hk : k = kkW parts n
    · rw [if_pos hk]
      exact ⟨fun _ => ⟨n, hn, by unfold addW; rw [decide_eq_true rfl]; rfl, hk⟩, fun _ => rfl⟩
    · rw [if_neg hk, h.ps k]
      constructor
      · rintro ⟨m, h1, h2, h3⟩; exact ⟨m, h1, by unfold addW; rw [h2, Bool.or_true], h3⟩
      · rintro ⟨m, h1, h2, h3⟩
        refine ⟨m, h1, ?_, h3⟩
        unfold addW at h2
        rwa [decide_eq_false (fun hx => hk (by rw [h3, hx])), Bool.false_or] at h2
  | some x =>
    have hpn : p n = true := by
      obtain ⟨m, _, h2, h3⟩ := (h.ps (kkW parts n)).1 (by rw [hd]; rfl)
      rw [kkW_inj h3]; exact h2
    have hpp : addW p n = p := funext fun m => by
      unfold addW
      by_cases hmn : m = n
      · rw [hmn, hpn, Bool.or_true]
      · rw [decide_eq_false hmn, Bool.false_or]
    rw [hpp] at hno hpr ⊢
    exact ⟨d, if_pos rfl, h.fl, h.ps, hno, hpr⟩
theorem WI.skip {parts out i0 : Int} {p : Nat → Bool} {d : VD} (h : WI parts out i0 p d) (ho : 0 ≤ i0 → i0 = out) : WI parts out (i0 + 1) p d :=
  ⟨h.fl, h.ps, h.no, fun n hn hne => h.pr n (by omega) hne⟩
def allW (parts : Int) (p : Nat → Bool) : Bool := (List.range (parts + 16).toNat).all p
theorem hasP_eq {parts out i0 : Int} {p : Nat → Bool} {d : VD} {n : Nat} {k : PK} (h : WI parts out i0 p d) (hk : k = kkW parts n) : (d.parts k).isSome = p n := by
  cases hp : p n with
  | true => exact (h.ps k).2 ⟨n, (h.no n hp).2, hp, hk⟩
  | false =>
    cases hd : (d.parts k).isSome with
    | false => rfl
    | true =>
      obtain ⟨m, _, h2, h3⟩ := (h.ps k).1 hd
      rw [hk] at h3
      rw [kkW_inj h3, h2] at hp; cases hp
theorem WI.whole {parts out i0 : Int} {p : Nat → Bool} {d : VD} (h : WI parts out i0 p d) (hp : 1 ≤ parts ∧ parts ≤ 16) : wholeP d awF 7 parts = allW parts p := by
  have hr : ∀ i : Nat, (i : Int) < parts → hasP d awF 7 1 i = p i := fun i hi => hasP_eq h (by unfold kkW; rw [if_pos hi])
  have hg : ∀ i : Nat, hasP d awF 7 2 i = p (i + parts.toNat) := fun i => hasP_eq h (by
    unfold kkW
    rw [if_neg (by omega)]
    congr 1; omega)
  rw [Bool.eq_iff_iff]
  unfold wholeP allW
  rw [decide_eq_true hp, Bool.true_and, Bool.and_eq_true, List.all_eq_true, List.all_eq_true, List.all_eq_true]
  constructor
  · rintro ⟨h1, h2⟩ n hn
    rw [List.mem_range] at hn
    by_cases hl : (n : Int) < parts
    · rw [← hr n hl]; exact h1 n (List.mem_range.2 (by omega))
    · have := h2 (n - parts.toNat) (List.mem_range.2 (by omega))
      rw [hg] at this
      rwa [show n - parts.toNat + parts.toNat = n by omega] at this
  · intro h1
    refine ⟨fun n hn => ?_, fun n hn => ?_⟩
    · rw [List.mem_range] at hn
      rw [hr n (by omega)]; exact h1 n (List.mem_range.2 (by omega))
    · rw [List.mem_range] at hn
      rw [hg]; exact h1 _ (List.mem_range.2 (by omega))
theorem wholeP_no {d : VD} {f : ByteArray} {n parts : Int} (h : d.parts ⟨f, n, 1, 0⟩ = none) : wholeP d f n parts = false := by
  unfold wholeP
  by_cases hp : 1 ≤ parts ∧ parts ≤ 16
  · rw [range_no (p := hasP d f n 1) (i := 0) (by omega) (by unfold hasP; rw [show ((0 : Nat) : Int) = 0 from rfl, h]; rfl)]; simp
  · rw [decide_eq_false hp]; rfl
theorem WI.none {parts out i0 : Int} {p : Nat → Bool} {d : VD} {f : ByteArray} {n m : Int} (h : WI parts out i0 p d) (hne : f ≠ awF ∨ n ≠ 7) : wholeP d f n m = false := by
  refine wholeP_no ?_
  cases hd : d.parts ⟨f, n, 1, 0⟩ with
  | none => rfl
  | some x =>
    obtain ⟨k, _, _, h3⟩ := (h.ps ⟨f, n, 1, 0⟩).1 (by rw [hd]; rfl)
    have h1 := congrArg PK.flow h3
    have h2 := congrArg PK.num h3
    rw [kkW_flow] at h1
    rw [kkW_num] at h2
    rcases hne with h | h
    · exact absurd h1 h
    · exact absurd h2 h
theorem WI.last {parts out : Int} {p : Nat → Bool} {d : VD} (h : WI parts out (parts + 16) p d) (hp : 1 ≤ parts) : allW parts p = !(decide (0 ≤ out ∧ out < parts + 16)) := by
  unfold allW
  by_cases ho : 0 ≤ out ∧ out < parts + 16
  · rw [decide_eq_true ho]
    refine range_no (i := out.toNat) (by omega) ?_
    cases hx : p out.toNat with
    | false => rfl
    | true => exact absurd (by omega) (h.no _ hx).1
  · rw [decide_eq_false ho, Bool.not_false, List.all_eq_true]
    intro n hn
    rw [List.mem_range] at hn
    exact h.pr n (by omega) (by omega)
theorem WI.drop {parts out i0 : Int} {p : Nat → Bool} {d : VD} (h : WI parts out i0 p d) : dropP awF 8 d = (dropD d awF 8, 0) ∧ wholeP (dropD d awF 8) awF 7 parts = false := by
  have hw : whyDrop d awF 8 = (0, true) := by
    unfold whyDrop
    rw [if_neg (by decide), if_neg (by decide), h.fl, decide_eq_true (by decide)]
  refine ⟨by unfold dropP actP; rw [hw, if_neg (by decide), if_neg (by decide)], wholeP_no ?_⟩
  exact if_pos (e := d.parts ⟨awF, 7, 1, 0⟩) (show awF = awF ∧ (7 : Int) < 8 from ⟨rfl, by decide⟩)
/-- how many there are -/
def cntW (parts : Int) (p : Nat → Bool) : Nat := (List.range (parts + 16).toNat).countP p
theorem countP_add {p : Nat → Bool} {n N : Nat} : (List.range N).countP (addW p n) = (List.range N).countP p + if n < N ∧ p n = false then 1 else 0 := by
  induction N with
  | zero => simp
  | succ N ih =>
    rw [List.range_succ, List.countP_append, List.countP_append, ih]
    simp only [List.countP_singleton]
    unfold addW
    by_cases hn : N = n
    · subst hn
      rw [decide_eq_true rfl, Bool.true_or, if_pos rfl, if_neg (by omega)]
      cases hp : p N with
      | true => rw [if_pos rfl, if_neg (by simp)]
      | false => rw [if_neg (by decide), if_pos ⟨by omega, rfl⟩]
    · rw [decide_eq_false hn, Bool.false_or]
      have : (n < N + 1 ∧ p n = false) ↔ (n < N ∧ p n = false) := ⟨fun h => ⟨by omega, h.2⟩, fun h => ⟨by omega, h.2⟩⟩
      simp only [this]
      omega
theorem cntW_add {parts : Int} {p : Nat → Bool} {n : Nat} (hn : (n : Int) < parts + 16) : cntW parts (addW p n) = cntW parts p + if p n = false then 1 else 0 := by
  unfold cntW
  rw [countP_add]
  have : (n < (parts + 16).toNat ∧ p n = false) ↔ p n = false := ⟨fun h => h.2, fun h => ⟨by omega, h⟩⟩
  simp only [this]
theorem cntW_all {parts : Int} {p : Nat → Bool} (hp : 1 ≤ parts) : decide ((cntW parts p : Int) = parts + 16) = allW parts p := by
  unfold cntW allW
  rw [Bool.eq_iff_iff, decide_eq_true_eq, List.all_eq_true, ← List.countP_eq_length, List.length_range]
  omega
theorem cntW_le {parts : Int} {p : Nat → Bool} (hp : 1 ≤ parts) : (cntW parts p : Int) ≤ parts + 16 := by
  unfold cntW
  have := List.countP_le_length (p := p) (l := List.range (parts + 16).toNat)
  rw [List.length_range] at this
  omega
theorem u8_byte {n : Nat} (h : n < 256) : Value.int .u8 (IntKind.u8.wrap (n : Int)) = .int .u8 ((UInt8.ofNat n).toNat : Int) := by
  have e : (UInt8.ofNat n).toNat = n := by simp; omega
  rw [e]
  congr 1
  rw [IntKind.wrap_u8]; omega
theorem cntW_zero (parts : Int) : (0 : Int) = (cntW parts (fun _ => false) : Int) := by
  unfold cntW
  rw [List.countP_false]; rfl
theorem kkW_lt {parts : Int} {n : Nat} (h : ¬ (n : Int) ≥ parts) : (kkW parts n).kind = 1 ∧ (kkW parts n).n = n := by unfold kkW; rw [if_pos (by omega)]; exact ⟨rfl, rfl⟩
theorem kkW_ge {parts : Int} {n : Nat} (h : (n : Int) ≥ parts) : (kkW parts n).kind = 2 ∧ (kkW parts n).n = n - parts := by unfold kkW; rw [if_neg (by omega)]; exact ⟨rfl, rfl⟩
theorem vcm_monoW {w0 w : World} {A : List HProp} {v dk m k : Nat} {d : VD} (hm : m ≤ k) (H : Own w0 (vcm v dk d m :: A) w) : Own w0 (vcm v dk d k :: A) w :=
  H.head fun _ h => by obtain ⟨i, hi, h⟩ := h; exact ⟨i, hi.mono hm, h⟩
theorem v_whole_at {w0 : World} {A : List HProp} {v dk m : Nat} {d : VD} {f : ByteArray} {n parts : Int} {b : Bool} (h : wholeP d f n parts = b) (hf : f.size ≤ 140737488351232) (hn : -9223372036854775808 ≤ n ∧ n ≤ 9223372036854775807) :
    Fun Tryd.prog w0 14 [.pointer (some ⟨v, 0, none⟩), .string f, .int .i64 n, .int .i64 parts] (vcm v dk d m :: A) (Ret w0 (fun _ : Unit => True) (fun _ => .bool b) (fun _ => vcm v dk d m :: A)) := by rw [← h]; exact v_whole_c hf hn
/-- what was seen, as cells -/
def hasC (p : Nat → Bool) : List Value := (List.range 32).map fun k => .bool (p k)
theorem hasC_len (p : Nat → Bool) : (hasC p).length = 32 := by simp [hasC]
theorem hasC_at {p : Nat → Bool} {n : Nat} (hn : n < 32) : (hasC p)[n]? = some (.bool (p n)) := by
  unfold hasC
  rw [List.getElem?_map, List.getElem?_range hn]; rfl
theorem hasC_set {p : Nat → Bool} {n : Nat} (hn : n < 32) : (hasC p).set n (.bool true) = hasC (addW p n) := by
  apply List.ext_getElem?
  intro j
  rw [List.getElem?_set]
  by_cases hj : n = j
  · subst hj
    rw [if_pos rfl, if_pos (by rw [hasC_len]; exact hn), hasC_at hn]
    unfold addW; rw [decide_eq_true rfl]; rfl
  · rw [if_neg hj]
    by_cases h32 : j < 32
    · rw [hasC_at h32, hasC_at h32]
      unfold addW; rw [decide_eq_false (fun h => hj h.symm), Bool.false_or]
    · rw [List.getElem?_eq_none (by rw [hasC_len]; omega), List.getElem?_eq_none (by rw [hasC_len]; omega)]

theorem i64s_getD {xs : List Int} {i : Nat} (h : i < xs.length) : (i64s xs)[((i : Int)).toNat]? = some (.int .i64 (xs.getD i 0)) := by
  have : ((i : Int)).toNat = i := by omega
  rw [this, i64s_at h, List.getD_eq_getElem?_getD, List.getElem?_eq_getElem h]; rfl
theorem v_put_w {w0 : World} {A : List HProp} {v dk c m : Nat} {d d' : VD} {parts : Int} {n : Nat} {base : Option Addr} {b : UInt8} [hR : Reads w0 A base [.int .u8 (b.toNat : Int)]] {pv : Value} (hp : 1 ≤ parts ∧ parts ≤ 16) (hn : (n : Int) < parts + 16) (hpv : pv = .agg #[.int .i64 (kkW parts n).kind, .int .i64 (kkW parts n).n]) (h : putP (kkW parts n) [b] d = (d', 0)) (hm : m ≤ 1700) :
    Fun Tryd.prog w0 10 [.pointer (some ⟨v, 0, none⟩), .string awF, .int .i64 7, pv, .slice base 1 c] (vcm v dk d m :: A) (Ret w0 (fun _ : Unit => True) (fun _ => .int .i64 0) (fun _ => vcm v dk d' (m + 1) :: A)) := by
  have := v_put_at (w0 := w0) (A := A) (v := v) (dk := dk) (c := c) (base := base) (bs := [b]) (hR := hR) h (kkW_ok hp hn) (by rw [kkW_flow]; decide) (Nat.le_of_ble_eq_true rfl) hm
  rw [kkW_flow, kkW_num] at this
  rw [hpv]
  exact this
theorem law_whole {w0 : World} {A : List HProp} {parts out : Int} {a : Option Addr} {xs : List Int} {c : Nat} (hx : Rd w0 a (i64s xs)) (hxs : ∀ x ∈ xs, -9223372036854775808 ≤ x ∧ x ≤ 9223372036854775807) :
    Fun Tryd.prog w0 4 [.int .i64 parts, .slice a xs.length c, .int .i64 out] A (Ret w0 (fun _ : Unit => True) (fun _ => .bool true) (fun _ => A)) := by
  refine Fun.enter Tryd.func4 rfl Tryd.ntmps4 rfl ?_
  refine WC.seq <| WC.region <| sv (vaB rfl) <| WL.nil <| WX.thenN <| WC.seq <| ?_
  refine WC.cutS [(26, .bool (decide (¬ ((1 ≤ parts ∧ parts ≤ 16) ∧ xs.length ≤ 300))))] [(0, .int _ _), (1, .slice _ _ _), (2, .int _ _)] ⟨rfl, rfl, rfl, trivial⟩ ?_ fun ρh => ?_
  · -- more.go:11
    refine WC.region <| sv (vmI rfl) <| svs (vlt rfl rfl) (fun q1 => ?_) (fun q1 => ?_)
    ·
      exact sv (vmB rfl) <| sng rfl <| sng rfl <| sv (vpkt rfl) <| sv (vmB rfl) <| sng rfl <| sng rfl <| sng rfl <| sv (vpkt rfl) <| WL.nil <| WX.mid () trivial ⟨bT (by first | omega | simp_all | grind), trivial⟩ ⟨rfl, rfl, rfl, trivial⟩ (fun _ h => Sb.own (by repeat' (first | with_reducible exact Sb.all | exact Sb.nil | (apply Sb.cons; focus (first | ((repeat (first | with_reducible exact Tk.here | with_reducible apply Tk.there)); done) | ((repeat (first | exact Tk.here | apply Tk.there)); done))) | apply Sb.drop)) h)
    ·
      refine sv (vmB rfl) <| svg rfl (vmI rfl) <| svsg rfl (vgt rfl rfl) (fun q2 => ?_) (fun q2 => ?_)
      ·
        exact sv (vpkf rfl) <| sv (vmB rfl) <| sng rfl <| sng rfl <| sng rfl <| sv (vpkt rfl) <| WL.nil <| WX.mid () trivial ⟨bT (by first | omega | simp_all | grind), trivial⟩ ⟨rfl, rfl, rfl, trivial⟩ (fun _ h => Sb.own (by repeat' (first | with_reducible exact Sb.all | exact Sb.nil | (apply Sb.cons; focus (first | ((repeat (first | with_reducible exact Tk.here | with_reducible apply Tk.there)); done) | ((repeat (first | exact Tk.here | apply Tk.there)); done))) | apply Sb.drop)) h)
      ·
        exact sv (vpkf rfl) <| sv (vmB rfl) <| svg rfl (vmS rfl) <| svg rfl (vlen Tryd.underlying41 rfl) <| svg rfl (vgt rfl rfl) <| sv (vpkf rfl) <| WL.nil <| WX.mid () trivial ⟨bI (by first | omega | simp_all | grind), trivial⟩ ⟨rfl, rfl, rfl, trivial⟩ (fun _ h => Sb.own (by repeat' (first | with_reducible exact Sb.all | exact Sb.nil | (apply Sb.cons; focus (first | ((repeat (first | with_reducible exact Tk.here | with_reducible apply Tk.there)); done) | ((repeat (first | exact Tk.here | apply Tk.there)); done))) | apply Sb.drop)) h)
  refine WC.ite rfl (fun h1 => ?_) (fun h1 => ?_)
  · -- then
    exact WC.seq <| WC.region <| sv (vaB rfl) <| WL.nil <| WX.thenN <| WC.ret <| WX.thenR <| WX.ret1 rfl (()) (trivial) rfl (fun _ h => Sb.own (by repeat' (first | with_reducible exact Sb.all | exact Sb.nil | (apply Sb.cons; focus (first | ((repeat (first | with_reducible exact Tk.here | with_reducible apply Tk.there)); done) | ((repeat (first | exact Tk.here | apply Tk.there)); done))) | apply Sb.drop)) h)
  · -- else
    obtain ⟨hp, hl⟩ := Decidable.not_not.1 h1
    refine WC.skip <| WX.thenN <| WC.seq <| WC.region <| clx (by repeat' (first | with_reducible exact Sb.all | exact Sb.nil | (apply Sb.cons; focus (first | ((repeat (first | with_reducible exact Tk.here | with_reducible apply Tk.there)); done) | ((repeat (first | exact Tk.here | apply Tk.there)); done))) | apply Sb.drop)) (disk_new) ct9 rfl fun r1 hr1 => ?_
    refine clx (by repeat' (first | with_reducible exact Sb.all | exact Sb.nil | (apply Sb.cons; focus (first | ((repeat (first | with_reducible exact Tk.here | with_reducible apply Tk.there)); done) | ((repeat (first | exact Tk.here | apply Tk.there)); done))) | apply Sb.drop)) (v_open_c) ct8 rfl fun r2 hr2 => ?_
    refine sv vmv <| sv (vex rfl rfl) <| sv (vex rfl rfl) <| sv (vaP rfl) <| sv (vaI rfl) <| WL.nil <| WX.thenN <| WC.seq <| ?_
    refine WC.cutS [(37, .bool false)] [(0, .int _ _), (1, .slice _ _ _), (2, .int _ _), (7, .pointer _)] ⟨rfl, rfl, rfl, rfl, trivial⟩ ?_ fun ρh => ?_
    · -- more.go:15
      exact WC.region <| sv (vmP rfl) <| sv (vpeqF Tryd.underlying27 rfl rfl) <| sv (vmB rfl) <| svg rfl (vmI rfl) <| svg rfl (vne rfl rfl) <| sv (vpkf rfl) <| WL.nil <| WX.mid () trivial ⟨rfl, trivial⟩ ⟨rfl, rfl, rfl, rfl, trivial⟩ (fun _ h => Sb.own (by repeat' (first | with_reducible exact Sb.all | exact Sb.nil | (apply Sb.cons; focus (first | ((repeat (first | with_reducible exact Tk.here | with_reducible apply Tk.there)); done) | ((repeat (first | exact Tk.here | apply Tk.there)); done))) | apply Sb.drop)) h)
    refine WC.ff rfl ?_
    refine WC.skip <| WX.thenN <| WC.seq <| WC.region <| sv (vmI rfl) <| sv (vadd rfl rfl (by omega)) <| sv (vaI rfl) <| WL.nil <| WX.thenN <| WC.seq <| WC.region <| alz (cs := hasC fun _ => false) zt42 (by rfl) fun b5 =>WL.nil <| WX.thenN <| WC.seq <| WC.region <| sv (vaI rfl) <| WL.nil <| WX.thenN <| WC.seq <| WC.seq <| WC.region <| sv (vaI rfl) <| WL.nil <| WX.thenN <| WC.block <| ?_
    refine WC.loop (ι := Nat × (Nat → Bool) × VD) (fun i => [(11, .int .i64 (cntW parts i.2.1)), (12, .int .i64 i.1)]) [(0, .int _ _), (1, .slice _ _ _), (2, .int _ _), (7, .pointer _), (9, .int _ _), (10, _)] (fun i => vcm r2 r1 i.2.2 i.1 :: cel b5 (hasC i.2.1) 42 :: A) (fun i => i.1 ≤ xs.length + (parts + 16) ∧ WI parts out (i.1 - xs.length) i.2.1 i.2.2) (fun i => (xs.length + (parts + 16) - i.1).toNat) ((0, fun _ => false, VD.new)) (⟨by omega, WI.new (by omega)⟩) ⟨iv (cntW_zero parts), rfl, trivial⟩ ⟨rfl, rfl, rfl, rfl, rfl, rfl, trivial⟩ (fun _ h => Sb.own (by repeat' (first | with_reducible exact Sb.all | exact Sb.nil | (apply Sb.cons; focus (first | ((repeat (first | with_reducible exact Tk.here | with_reducible apply Tk.there)); done) | ((repeat (first | exact Tk.here | apply Tk.there)); done))) | apply Sb.drop)) h) ?_
    rintro ⟨i, p, d⟩ ⟨hi, hw⟩ ρh
    dsimp only at hi hw ⊢
    refine WC.seq <| WC.seq <| WC.region <| sv (vmI rfl) <| sv (vmS rfl) <| sv (vlen Tryd.underlying41 rfl) <| sv (vmI rfl) <| sv (vadd rfl rfl (by omega)) <| sv (vlt rfl rfl) <| WL.nil <| WX.thenN <| ?_
    refine WC.ite rfl (fun h3 => ?_) (fun h3 => ?_)
    · -- then
      have hcw := cntW_le (p := p) hp.1
      refine WC.skip <| WX.thenN <| WC.seq <| WC.block <| WC.seq <| WC.region <| sv (vmI rfl) <| sv (vmS rfl) <| sv (vlen Tryd.underlying41 rfl) <| sv (vsub rfl rfl (by omega)) <| sv (vaI rfl) <| WL.nil <| WX.thenN <| ?_
      refine WC.cutvS (ι := Nat) (fun n => [(13, .int .i64 n)]) [(0, .int _ _), (1, .slice _ _ _), (2, .int _ _), (7, .pointer _), (9, .int _ _), (10, _), (11, .int _ _), (12, .int _ _)] (fun n => (n : Int) < parts + 16 ∧ (0 ≤ (i : Int) - xs.length → (n : Int) = i - xs.length)) ⟨rfl, rfl, rfl, rfl, rfl, rfl, rfl, rfl, trivial⟩ ?_ ?_
      · -- up to the join
        refine WC.seq <| WC.region <| sv (vmI rfl) <| sv (vmS rfl) <| sv (vlen Tryd.underlying41 rfl) <| sv (vlt rfl rfl) <| WL.nil <| WX.thenN <| ?_
        refine WC.ite rfl (fun h4 => ?_) (fun h4 => ?_)
        · -- then
          have hxi := hxs (xs.getD i 0) (by rw [List.getD_eq_getElem?_getD, List.getElem?_eq_getElem (by omega)]; exact List.getElem_mem _)
          refine WC.seq <| WC.region <| sv (vmS rfl) <| sv (vmI rfl) <| sv (vix1 Tryd.underlying41 sz3 rfl rfl (by omega) (by omega) (RdC.old hx) (by rw [i64s_length]; omega)) <| sv (vldo pl3 rfl (RdC.old hx) (i64s_getD (by omega))) <| sv (vaI rfl) <| WL.nil <| WX.thenN <| ?_
          refine WC.cutvS (ι := Int) (fun q => [(13, .int .i64 q)]) [(0, .int _ _), (1, .slice _ _ _), (2, .int _ _), (7, .pointer _), (9, .int _ _), (10, _), (11, .int _ _), (12, .int _ _)] (fun q => 0 ≤ q) ⟨rfl, rfl, rfl, rfl, rfl, rfl, rfl, rfl, trivial⟩ ?_ ?_
          · -- up to the join
            refine WC.seq <| WC.region <| sv (vmI rfl) <| sv (vlt rfl rfl) <| WL.nil <| WX.thenN <| ?_
            refine WC.ite rfl (fun h5 => ?_) (fun h5 => ?_)
            · -- then
              exact WC.region <| sv (vmI rfl) <| sv (vadd rfl rfl (by omega)) <| sv (vneg rfl) <| sv (vaI rfl) <| WL.nil <| WX.mid (0 - (xs.getD i 0 + 1)) (by omega) ⟨iv (wrap64_in (by omega)), trivial⟩ ⟨rfl, rfl, rfl, rfl, rfl, rfl, rfl, rfl, trivial⟩ (fun _ h => Sb.own (by repeat' (first | with_reducible exact Sb.all | exact Sb.nil | (apply Sb.cons; focus (first | ((repeat (first | with_reducible exact Tk.here | with_reducible apply Tk.there)); done) | ((repeat (first | exact Tk.here | apply Tk.there)); done))) | apply Sb.drop)) h)
            · -- else
              exact WC.skip <| WX.mid (xs.getD i 0) (by omega) ⟨rfl, trivial⟩ ⟨rfl, rfl, rfl, rfl, rfl, rfl, rfl, rfl, trivial⟩ (fun _ h => Sb.own (by repeat' (first | with_reducible exact Sb.all | exact Sb.nil | (apply Sb.cons; focus (first | ((repeat (first | with_reducible exact Tk.here | with_reducible apply Tk.there)); done) | ((repeat (first | exact Tk.here | apply Tk.there)); done))) | apply Sb.drop)) h)
          · -- behind the join
            intro q hq ρh
            exact WC.region <| sv (vmI rfl) <| sv (vmI rfl) <| sv (vrem rfl rfl (by omega)) <| sv (vaI rfl) <| WL.nil <| WX.mid ((Int.tmod q (parts + 16)).toNat) (⟨by rw [Int.toNat_of_nonneg (Int.tmod_nonneg _ hq)]; exact Int.tmod_lt_of_pos _ (by omega), fun _ => by omega⟩) ⟨iv (Int.toNat_of_nonneg (Int.tmod_nonneg _ hq)).symm, trivial⟩ ⟨rfl, rfl, rfl, rfl, rfl, rfl, rfl, rfl, trivial⟩ (fun _ h => Sb.own (by repeat' (first | with_reducible exact Sb.all | exact Sb.nil | (apply Sb.cons; focus (first | ((repeat (first | with_reducible exact Tk.here | with_reducible apply Tk.there)); done) | ((repeat (first | exact Tk.here | apply Tk.there)); done))) | apply Sb.drop)) h)
        · -- else
          exact WC.skip <| WX.mid (i - xs.length) (⟨by omega, by omega⟩) ⟨iv (by omega), trivial⟩ ⟨rfl, rfl, rfl, rfl, rfl, rfl, rfl, rfl, trivial⟩ (fun _ h => Sb.own (by repeat' (first | with_reducible exact Sb.all | exact Sb.nil | (apply Sb.cons; focus (first | ((repeat (first | with_reducible exact Tk.here | with_reducible apply Tk.there)); done) | ((repeat (first | exact Tk.here | apply Tk.there)); done))) | apply Sb.drop)) h)
      · -- behind the join
        rintro n ⟨hn, hn0⟩ ρh
        refine WC.seq <| WC.seq <| WC.region <| sv (vmI rfl) <| sv (vmI rfl) <| sv (veq rfl rfl) <| WL.nil <| WX.thenN <| ?_
        refine WC.ite rfl (fun h6 => ?_) (fun h6 => ?_)
        · -- then
          have hw' := hw.skip (by omega)
          exact WC.exit <| WX.thenE <| WX.blockH <| WX.thenN <| WC.region <| sv (vmI rfl) <| sv (vadd rfl rfl (by omega)) <| sv (vaI rfl) <| WL.nil <| WX.again ((i + 1, p, d)) (⟨by omega, by rw [show ((i + 1 : Nat) : Int) - xs.length = i - xs.length + 1 by omega]; exact hw'⟩) (by omega) ⟨rfl, rfl, trivial⟩ ⟨rfl, rfl, rfl, rfl, rfl, rfl, trivial⟩ (fun w h => vcm_monoW (Nat.le_succ _) (Sb.own (by repeat' (first | with_reducible exact Sb.all | exact Sb.nil | (apply Sb.cons; focus (first | ((repeat (first | with_reducible exact Tk.here | with_reducible apply Tk.there)); done) | ((repeat (first | exact Tk.here | apply Tk.there)); done))) | apply Sb.drop)) h))
        · -- else
          obtain ⟨d', hput, hw'⟩ := hw.put (b := [UInt8.ofNat n]) hp hn h6 hn0
          refine WC.skip <| WX.thenN <| WC.seq <| WC.region <| sv (vmI rfl) <| sv (vbd (ps := [(0, (.int .i64 1)), (1, .int _ _)]) (cs := [_, _]) bt24 zt24 rfl (by rfl)) <| alz (cs := [.int .i64 0, .int .i64 0]) zt24 (by rfl) fun b13 => stAp sz24 rfl rfl rfl (by intro v hv; simp only [List.mem_cons, List.not_mem_nil, or_false] at hv; rcases hv with rfl | rfl <;> rfl) rfl <| WL.nil <| WX.thenN <| ?_
          refine WC.cutv (ι := Unit) (fun u => []) [(0, .int _ _), (1, .slice _ _ _), (2, .int _ _), (7, .pointer _), (9, .int _ _), (10, _), (11, .int _ _), (12, .int _ _), (13, .int _ _), (14, _)] (fun u => vcm r2 r1 d i :: cel b5 (hasC p) 42 :: cel b13 [.int .i64 (kkW parts n).kind, .int .i64 (kkW parts n).n] 24 :: A) (fun u => True) ⟨rfl, rfl, rfl, rfl, rfl, rfl, rfl, rfl, rfl, rfl, trivial⟩ ?_ ?_
          · -- up to the join
            refine WC.seq <| WC.region <| sv (vmI rfl) <| sv (vmI rfl) <| sv (vge rfl rfl) <| WL.nil <| WX.thenN <| ?_
            refine WC.ite rfl (fun h7 => ?_) (fun h7 => ?_)
            · -- then
              exact WC.region <| sv (vmI rfl) <| sv (vmI rfl) <| sv (vsub rfl rfl (by omega)) <| sv (vbd (ps := [(0, (.int .i64 2)), (1, .int _ _)]) (cs := [_, _]) bt24 zt24 rfl (by rfl)) <| stAp sz24 rfl rfl rfl (by intro v hv; simp only [List.mem_cons, List.not_mem_nil, or_false] at hv; rcases hv with rfl | rfl <;> rfl) rfl <| WL.nil <| WX.mid (()) (trivial) trivial ⟨rfl, rfl, rfl, rfl, rfl, rfl, rfl, rfl, rfl, rfl, trivial⟩ (fun w h => by rw [(kkW_ge h7).1, (kkW_ge h7).2]; exact Sb.own (by repeat' (first | with_reducible exact Sb.all | exact Sb.nil | (apply Sb.cons; focus (first | ((repeat (first | with_reducible exact Tk.here | with_reducible apply Tk.there)); done) | ((repeat (first | exact Tk.here | apply Tk.there)); done))) | apply Sb.drop)) h)
            · -- else
              exact WC.skip <| WX.mid (()) (trivial) trivial ⟨rfl, rfl, rfl, rfl, rfl, rfl, rfl, rfl, rfl, rfl, trivial⟩ (fun w h => by rw [(kkW_lt h7).1, (kkW_lt h7).2]; exact Sb.own (by repeat' (first | with_reducible exact Sb.all | exact Sb.nil | (apply Sb.cons; focus (first | ((repeat (first | with_reducible exact Tk.here | with_reducible apply Tk.there)); done) | ((repeat (first | exact Tk.here | apply Tk.there)); done))) | apply Sb.drop)) h)
          · -- behind the join
            intro _ _ ρh
            refine WC.seq <| WC.seq <| WC.region <| sv (vmP rfl) <| sv (vldac ag24 sz24 rfl rfl (by decide)) <| sv (vmI rfl) <| sv (vw (v' := .int .u8 ((UInt8.ofNat n).toNat : Int)) (vcv is3 Tryd.underlying5 rfl) (u8_byte (by omega))) <| bsln [.int _ _] Tryd.underlying25 zt5 rfl rfl (by intro v hv; simp only [List.mem_cons, List.not_mem_nil, or_false] at hv; rcases hv with rfl <;> rfl) (by simp) fun b20 => clx (by repeat' (first | with_reducible exact Sb.all | exact Sb.nil | (apply Sb.cons; focus (first | ((repeat (first | with_reducible exact Tk.here | with_reducible apply Tk.there)); done) | ((repeat (first | exact Tk.here | apply Tk.there)); done))) | apply Sb.drop)) (v_put_w (b := UInt8.ofNat n) hp hn rfl hput (by omega)) ct10 rfl fun r21 hr21 => ?_
            refine sv (vne rfl rfl) <| WL.nil <| WX.thenN <| ?_
            refine WC.ff rfl ?_
            refine WC.skip <| WX.thenN <| ?_
            refine WC.cutvS (ι := Unit) (fun i => [(11, .int .i64 (cntW parts (addW p n)))]) [(0, .int _ _), (1, .slice _ _ _), (2, .int _ _), (7, .pointer _), (9, .int _ _), (10, _), (12, .int _ _), (13, .int _ _)] (fun i => True) ⟨rfl, rfl, rfl, rfl, rfl, rfl, rfl, rfl, trivial⟩ ?_ ?_
            · -- up to the join
              refine WC.seq <| WC.region <| sv (vmI rfl) <| sv (vixap Tryd.underlying42 sz4 rfl rfl (by omega) (by omega)) <| sv (vldx pl4 rfl (hasC_at (by omega))) <| sv (vnot rfl) <| WL.nil <| WX.thenN <| ?_
              refine WC.iteb rfl (fun h9 => ?_) (fun h9 => ?_)
              · -- then
                exact WC.region <| sv (vmI rfl) <| sv (vadd rfl rfl (by omega)) <| sv (vaI rfl) <| WL.nil <| WX.mid (()) (trivial) ⟨iv (by rw [cntW_add hn]; have : p n = false := (by simpa using h9); rw [if_pos this]; omega), trivial⟩ ⟨rfl, rfl, rfl, rfl, rfl, rfl, rfl, rfl, trivial⟩ (fun _ h => Sb.own (by repeat' (first | with_reducible exact Sb.all | exact Sb.nil | (apply Sb.cons; focus (first | ((repeat (first | with_reducible exact Tk.here | with_reducible apply Tk.there)); done) | ((repeat (first | exact Tk.here | apply Tk.there)); done))) | apply Sb.drop)) h)
              · -- else
                exact WC.skip <| WX.mid (()) (trivial) ⟨iv (by rw [cntW_add hn]; have : p n = true := (by simpa using h9); rw [this, if_neg (by decide)]; omega), trivial⟩ ⟨rfl, rfl, rfl, rfl, rfl, rfl, rfl, rfl, trivial⟩ (fun _ h => Sb.own (by repeat' (first | with_reducible exact Sb.all | exact Sb.nil | (apply Sb.cons; focus (first | ((repeat (first | with_reducible exact Tk.here | with_reducible apply Tk.there)); done) | ((repeat (first | exact Tk.here | apply Tk.there)); done))) | apply Sb.drop)) h)
            · -- behind the join
              intro _ _ ρh
              refine WC.seq <| WC.region <| sv (vmI rfl) <| sv (vixap Tryd.underlying42 sz4 rfl rfl (by omega) (by omega)) <| stq (vs' := hasC (addW p n)) pl4 sz4 rfl rfl rfl (by rw [hasC_len]; omega) (by rw [show 0 + (n : Int).toNat = n by omega]; exact hasC_set (by omega)) <| WL.nil <| WX.thenN <| ?_
              refine WC.cutS [(111, .bool false)] [(0, .int _ _), (1, .slice _ _ _), (2, .int _ _), (7, .pointer _), (9, .int _ _), (10, _), (11, .int _ _), (12, .int _ _)] ⟨rfl, rfl, rfl, rfl, rfl, rfl, rfl, rfl, trivial⟩ ?_ fun ρh => ?_
              · -- more.go:44
                refine WC.region <| sv (vmP rfl) <| sv (vmI rfl) <| clx (by repeat' (first | with_reducible exact Sb.all | exact Sb.nil | (apply Sb.cons; focus (first | ((repeat (first | with_reducible exact Tk.here | with_reducible apply Tk.there)); done) | ((repeat (first | exact Tk.here | apply Tk.there)); done))) | apply Sb.drop)) (v_whole_at (hw'.whole hp) (by decide) (by decide)) ct14 rfl fun r27 hr27 => ?_
                refine sv (vmI rfl) <| sv (vmI rfl) <| sv (veq rfl rfl) <| sv (vF (vneb Tryd.underlying4 rfl rfl) (by rw [cntW_all hp.1]; simp)) <| sv (vmB rfl) <| svg rfl (vmP rfl) <| svg rfl (vmI rfl) <| gy rfl <| clx (by repeat' (first | with_reducible exact Sb.all | exact Sb.nil | (apply Sb.cons; focus (first | ((repeat (first | with_reducible exact Tk.here | with_reducible apply Tk.there)); done) | ((repeat (first | exact Tk.here | apply Tk.there)); done))) | apply Sb.drop)) (v_whole_at (hw'.none (.inr (by decide))) (by decide) (by decide)) ct14 rfl fun r28 hr28 => ?_
                refine sv (vpkf rfl) <| sv (vmB rfl) <| svg rfl (vmP rfl) <| svg rfl (vmI rfl) <| gy rfl <| clx (by repeat' (first | with_reducible exact Sb.all | exact Sb.nil | (apply Sb.cons; focus (first | ((repeat (first | with_reducible exact Tk.here | with_reducible apply Tk.there)); done) | ((repeat (first | exact Tk.here | apply Tk.there)); done))) | apply Sb.drop)) (v_whole_at (hw'.none (.inl (by decide))) (by decide) (by decide)) ct14 rfl fun r29 hr29 => ?_
                exact sv (vpkf rfl) <| WL.nil <| WX.mid () trivial ⟨rfl, trivial⟩ ⟨rfl, rfl, rfl, rfl, rfl, rfl, rfl, rfl, trivial⟩ (fun _ h => Sb.own (by repeat' (first | with_reducible exact Sb.all | exact Sb.nil | (apply Sb.cons; focus (first | ((repeat (first | with_reducible exact Tk.here | with_reducible apply Tk.there)); done) | ((repeat (first | exact Tk.here | apply Tk.there)); done))) | apply Sb.drop)) h)
              refine WC.ff rfl ?_
              exact WC.skip <| WX.blockN <| WX.thenN <| WC.region <| sv (vmI rfl) <| sv (vadd rfl rfl (by omega)) <| sv (vaI rfl) <| WL.nil <| WX.again ((i + 1, addW p n, d')) (⟨by omega, by rw [show ((i + 1 : Nat) : Int) - xs.length = i - xs.length + 1 by omega]; exact hw'⟩) (by omega) ⟨rfl, rfl, trivial⟩ ⟨rfl, rfl, rfl, rfl, rfl, rfl, trivial⟩ (fun _ h => Sb.own (by repeat' (first | with_reducible exact Sb.all | exact Sb.nil | (apply Sb.cons; focus (first | ((repeat (first | with_reducible exact Tk.here | with_reducible apply Tk.there)); done) | ((repeat (first | exact Tk.here | apply Tk.there)); done))) | apply Sb.drop)) h)
    · -- else
      have hw9 : WI parts out (parts + 16) p d := by have e : (i : Int) - xs.length = parts + 16 := by { omega }; rw [← e]; exact hw
      have hlast := hw9.last hp.1
      refine WC.exit <| WX.thenE <| WX.thenE <| WX.blockH <| WX.thenN <| ?_
      refine WC.cutS [(15, .bool (decide (0 ≤ out ∧ out < parts + 16)))] [(0, .int _ _), (7, .pointer _)] ⟨rfl, rfl, trivial⟩ ?_ fun ρh => ?_
      · -- more.go:48
        refine WC.region <| sv (vmI rfl) <| svs (vge rfl rfl) (fun q3 => ?_) (fun q3 => ?_)
        ·
          exact sv (vmB rfl) <| svg rfl (vmI rfl) <| svg rfl (vmI rfl) <| svg rfl (vlt rfl rfl) <| sv (vpkt rfl) <| sv (vaB rfl) <| WL.nil <| WX.mid () trivial ⟨bI (by first | omega | simp_all | grind), trivial⟩ ⟨rfl, rfl, trivial⟩ (fun _ h => Sb.own (by repeat' (first | with_reducible exact Sb.all | exact Sb.nil | (apply Sb.cons; focus (first | ((repeat (first | with_reducible exact Tk.here | with_reducible apply Tk.there)); done) | ((repeat (first | exact Tk.here | apply Tk.there)); done))) | apply Sb.drop)) h)
        ·
          exact sv (vmB rfl) <| sng rfl <| sng rfl <| sng rfl <| sv (vpkf rfl) <| sv (vaB rfl) <| WL.nil <| WX.mid () trivial ⟨bF (by first | omega | simp_all | grind), trivial⟩ ⟨rfl, rfl, trivial⟩ (fun _ h => Sb.own (by repeat' (first | with_reducible exact Sb.all | exact Sb.nil | (apply Sb.cons; focus (first | ((repeat (first | with_reducible exact Tk.here | with_reducible apply Tk.there)); done) | ((repeat (first | exact Tk.here | apply Tk.there)); done))) | apply Sb.drop)) h)
      refine WC.cut0 [(6, .bool true)] [] (A) trivial ?_ fun ρh => ?_
      · -- more.go:49
        refine WC.region <| clx (by repeat' (first | with_reducible exact Sb.all | exact Sb.nil | (apply Sb.cons; focus (first | ((repeat (first | with_reducible exact Tk.here | with_reducible apply Tk.there)); done) | ((repeat (first | exact Tk.here | apply Tk.there)); done))) | apply Sb.drop)) (law_awake) ct11 rfl fun r31 hr31 => ?_
        refine sv (vmB rfl) <| svg rfl (vmP rfl) <| svg rfl (vmI rfl) <| gy rfl <| clx (by repeat' (first | with_reducible exact Sb.all | exact Sb.nil | (apply Sb.cons; focus (first | ((repeat (first | with_reducible exact Tk.here | with_reducible apply Tk.there)); done) | ((repeat (first | exact Tk.here | apply Tk.there)); done))) | apply Sb.drop)) (v_whole_at ((hw9.whole hp).trans hlast) (by decide) (by decide)) ct14 rfl fun r32 hr32 => ?_
        refine svg rfl (vmB rfl) <| svg rfl (vT (vneb Tryd.underlying4 rfl rfl) (by cases decide (0 ≤ out ∧ out < parts + 16) <;> simp)) <| sv (vpkt rfl) <| sv (vmB rfl) <| svg rfl (vmP rfl) <| gy rfl <| clx (by repeat' (first | with_reducible exact Sb.all | exact Sb.nil | (apply Sb.cons; focus (first | ((repeat (first | with_reducible exact Tk.here | with_reducible apply Tk.there)); done) | ((repeat (first | exact Tk.here | apply Tk.there)); done))) | apply Sb.drop)) (v_drop_at hw9.drop.1 (by decide) (by decide) (by omega)) ct15 rfl fun r33 hr33 => ?_
        refine svg rfl (vT (veq rfl rfl) (by omega)) <| sv (vpkt rfl) <| sv (vmB rfl) <| svg rfl (vmP rfl) <| svg rfl (vmI rfl) <| gy rfl <| clx (by repeat' (first | with_reducible exact Sb.all | exact Sb.nil | (apply Sb.cons; focus (first | ((repeat (first | with_reducible exact Tk.here | with_reducible apply Tk.there)); done) | ((repeat (first | exact Tk.here | apply Tk.there)); done))) | apply Sb.drop)) (v_whole_at hw9.drop.2 (by decide) (by decide)) ct14 rfl fun r34 hr34 => ?_
        exact svg rfl (vnot rfl) <| sv (vpkt rfl) <| sv (vaB rfl) <| WL.nil <| WX.mid () trivial ⟨rfl, trivial⟩ trivial (fun _ h => Sb.own (by repeat' (first | with_reducible exact Sb.all | exact Sb.nil | (apply Sb.cons; focus (first | ((repeat (first | with_reducible exact Tk.here | with_reducible apply Tk.there)); done) | ((repeat (first | exact Tk.here | apply Tk.there)); done))) | apply Sb.drop)) h)
      exact WC.ret <| WX.ret1 rfl (()) (trivial) rfl (fun _ h => Sb.own (by repeat' (first | with_reducible exact Sb.all | exact Sb.nil | (apply Sb.cons; focus (first | ((repeat (first | with_reducible exact Tk.here | with_reducible apply Tk.there)); done) | ((repeat (first | exact Tk.here | apply Tk.there)); done))) | apply Sb.drop)) h)
end Go.Proofs.YthljpljbpbkkcaaDoor
