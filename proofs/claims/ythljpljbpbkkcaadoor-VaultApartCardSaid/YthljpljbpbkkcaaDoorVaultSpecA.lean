/-
  Layer 16: names, numbers, parts; a part's place as a key of a map.
-/
import Derived.Test.YthljpljbpbkkcaaDoorVaultPure
import Derived.Test.YthljpljbpbkkcaaDoorSlMapK
import Derived.Test.YthljpljbpbkkcaaDoorSlCallV
import Derived.Test.YthljpljbpbkkcaaDoorSlLay
import Derived.Test.YthljpljbpbkkcaaDoorLayX
import Derived.Test.YthljpljbpbkkcaaDoorBase
set_option linter.unusedVariables false
set_option linter.unusedSimpArgs false
set_option maxRecDepth 4000
namespace Go.Proofs.YthljpljbpbkkcaaDoor
open Go.Sl Go.RowKit Go.Pack Go.Vault

abbrev cutV : ByteArray := ByteArray.mk #[97, 98, 99, 100, 101, 102, 103, 104, 105, 106, 107, 108, 109, 110, 111, 112, 113, 114, 115, 116, 117, 118, 119, 120, 121, 122, 48, 49, 50, 51, 52, 53, 54, 55, 56, 57, 45]
theorem cutV_mem (c : UInt8) : cutV.data.toList.contains c = true ↔ NmC c := by
  have h : ∀ n : Fin 256, (cutV.data.toList.contains (UInt8.ofNat n.val) = true ↔ NmC (UInt8.ofNat n.val)) := by decide
  have := h ⟨c.toNat, c.toNat_lt⟩
  rwa [show UInt8.ofNat c.toNat = c from UInt8.ofNat_toNat] at this
theorem dropWhile_nil {α : Type} {p : α → Bool} : ∀ {l : List α}, l.dropWhile p = [] ↔ ∀ x ∈ l, p x = true
  | [] => by simp
  | a :: l => by
    by_cases h : p a = true
    · rw [List.dropWhile_cons_of_pos h, dropWhile_nil]; simp [h]
    · rw [List.dropWhile_cons_of_neg h]; simp [h]
theorem trim_nil {l cs : List UInt8} : Lib.trimS l cs = [] ↔ ∀ c ∈ l, cs.contains c = true := by
  unfold Lib.trimS Lib.trimLeftS Lib.trimRightS
  constructor
  · intro h c hc
    rw [dropWhile_nil] at h
    by_cases hq : ∀ x ∈ l, cs.contains x = true
    · exact hq c hc
    · exfalso
      have h1 : l.reverse.dropWhile (cs.contains ·) ≠ [] := fun e => hq fun x hx => dropWhile_nil.1 e x (List.mem_reverse.2 hx)
      have h2 := List.head_dropWhile_not (cs.contains ·) h1
      have h3 := h _ (List.mem_reverse.2 (List.head_mem h1))
      simp_all
  · intro h
    have h1 : l.reverse.dropWhile (cs.contains ·) = [] := dropWhile_nil.2 fun x hx => h x (List.mem_reverse.1 hx)
    rw [h1]; rfl
theorem str_trim {w0 : World} {A : List HProp} {s : ByteArray} (hs : s.size ≤ 140737488351232) : Fun Tryd.prog w0 54 [.string s, .string cutV] A (Ret w0 (fun _ : Unit => True) (fun _ => .string ⟨(Lib.trimS s.data.toList cutV.data.toList).toArray⟩) (fun _ => A)) :=
  ⟨fun w hw => (Any.strings_Trim_laid ly_trim (by kernel_rfl) s cutV w (by omega) (by decide) (ascii_of_all (by decide))).mono fun e w' ⟨he, hb⟩ => ⟨(), trivial, he, hw.grown hb⟩⟩
theorem ba_nil {l : List UInt8} : (⟨l.toArray⟩ : ByteArray) = ByteArray.mk #[] ↔ l = [] := by
  constructor
  · intro h
    have := congrArg (fun x : ByteArray => x.data.toList) h
    simpa using this
  · rintro rfl; rfl
theorem ba_nil' {s : ByteArray} : s = ByteArray.mk #[] ↔ s.data.toList = [] := by
  obtain ⟨⟨l⟩⟩ := s
  exact ba_nil
theorem v_named {w0 : World} {A : List HProp} {s : ByteArray} (hs : s.size ≤ 140737488351232) : Fun Tryd.prog w0 40 [.string s] A (Ret w0 (fun _ : Unit => True) (fun _ => .bool (decide (vName s))) (fun _ => A)) := by
  refine Fun.enter Tryd.func40 rfl Tryd.ntmps40 rfl ?_
  refine WC.seq <| WC.region <| sv (vaB rfl) <| WL.nil <| WX.thenN <| ?_
  refine WC.cutS [(2, .bool (decide (vName s)))] [] trivial ?_ fun ρh => ?_
  · -- vault.go:30
    refine WC.region <| sv (vmT rfl) <| svs (vnes rfl rfl) (fun q1 => ?_) (fun q1 => ?_)
    ·
      refine sv (vmB rfl) <| svg rfl (vmT rfl) <| svg rfl (vlens Tryd.underlying9 rfl) <| svsg rfl (vle rfl rfl) (fun q2 => ?_) (fun q2 => ?_)
      ·
        refine sv (vpkt rfl) <| sv (vmB rfl) <| svg rfl (vmT rfl) <| gy rfl <| clx (by repeat' (first | with_reducible exact Sb.all | exact Sb.nil | (apply Sb.cons; focus (first | ((repeat (first | with_reducible exact Tk.here | with_reducible apply Tk.there)); done) | ((repeat (first | exact Tk.here | apply Tk.there)); done))) | apply Sb.drop)) (str_trim hs) ct54 rfl fun r1 hr1 => ?_
        exact svg rfl (veqs rfl rfl) <| sv (vpkt rfl) <| sv (vaB rfl) <| WL.nil <| WX.mid () trivial ⟨bI (by rw [ba_nil, trim_nil]; exact ⟨fun h => ⟨fun e => q1 (ba_nil'.2 e), by omega, fun c hc => (cutV_mem c).1 (h c hc)⟩, fun h c hc => (cutV_mem c).2 (h.2.2 c hc)⟩), trivial⟩ trivial (fun _ h => Sb.own (by repeat' (first | with_reducible exact Sb.all | exact Sb.nil | (apply Sb.cons; focus (first | ((repeat (first | with_reducible exact Tk.here | with_reducible apply Tk.there)); done) | ((repeat (first | exact Tk.here | apply Tk.there)); done))) | apply Sb.drop)) h)
      ·
        exact sv (vpkt rfl) <| sv (vmB rfl) <| sng rfl <| sng rfl <| sng rfl <| sv (vpkf rfl) <| sv (vaB rfl) <| WL.nil <| WX.mid () trivial ⟨bF (fun h => by have := h.2.1; omega), trivial⟩ trivial (fun _ h => Sb.own (by repeat' (first | with_reducible exact Sb.all | exact Sb.nil | (apply Sb.cons; focus (first | ((repeat (first | with_reducible exact Tk.here | with_reducible apply Tk.there)); done) | ((repeat (first | exact Tk.here | apply Tk.there)); done))) | apply Sb.drop)) h)
    ·
      exact sv (vmB rfl) <| sng rfl <| sng rfl <| sng rfl <| sv (vpkf rfl) <| sv (vmB rfl) <| sng rfl <| sng rfl <| sng rfl <| sv (vpkf rfl) <| sv (vaB rfl) <| WL.nil <| WX.mid () trivial ⟨bF (fun h => h.1 (ba_nil'.1 (Decidable.not_not.1 q1))), trivial⟩ trivial (fun _ h => Sb.own (by repeat' (first | with_reducible exact Sb.all | exact Sb.nil | (apply Sb.cons; focus (first | ((repeat (first | with_reducible exact Tk.here | with_reducible apply Tk.there)); done) | ((repeat (first | exact Tk.here | apply Tk.there)); done))) | apply Sb.drop)) h)
  exact WC.ret <| WX.ret1 rfl (()) (trivial) rfl (fun _ h => Sb.own (by repeat' (first | with_reducible exact Sb.all | exact Sb.nil | (apply Sb.cons; focus (first | ((repeat (first | with_reducible exact Tk.here | with_reducible apply Tk.there)); done) | ((repeat (first | exact Tk.here | apply Tk.there)); done))) | apply Sb.drop)) h)
theorem v_counts {w0 : World} {A : List HProp} {n : Int} : Fun Tryd.prog w0 41 [.int .i64 n] A (Ret w0 (fun _ : Unit => True) (fun _ => .bool (decide (cntP n))) (fun _ => A)) := by
  refine Fun.enter Tryd.func41 rfl Tryd.ntmps41 rfl ?_
  refine WC.seq <| WC.region <| sv (vaB rfl) <| WL.nil <| WX.thenN <| ?_
  refine WC.cutS [(2, .bool (decide (cntP n)))] [] trivial ?_ fun ρh => ?_
  · -- vault.go:33
    refine WC.region <| sv (vmI rfl) <| svs (vge rfl rfl) (fun q1 => ?_) (fun q1 => ?_)
    ·
      exact sv (vmB rfl) <| svg rfl (vmI rfl) <| svg rfl (vle rfl rfl) <| sv (vpkt rfl) <| sv (vaB rfl) <| WL.nil <| WX.mid () trivial ⟨bI (by unfold cntP; omega), trivial⟩ trivial (fun _ h => Sb.own (by repeat' (first | with_reducible exact Sb.all | exact Sb.nil | (apply Sb.cons; focus (first | ((repeat (first | with_reducible exact Tk.here | with_reducible apply Tk.there)); done) | ((repeat (first | exact Tk.here | apply Tk.there)); done))) | apply Sb.drop)) h)
    ·
      exact sv (vmB rfl) <| sng rfl <| sng rfl <| sv (vpkf rfl) <| sv (vaB rfl) <| WL.nil <| WX.mid () trivial ⟨bF (by unfold cntP; omega), trivial⟩ trivial (fun _ h => Sb.own (by repeat' (first | with_reducible exact Sb.all | exact Sb.nil | (apply Sb.cons; focus (first | ((repeat (first | with_reducible exact Tk.here | with_reducible apply Tk.there)); done) | ((repeat (first | exact Tk.here | apply Tk.there)); done))) | apply Sb.drop)) h)
  exact WC.ret <| WX.ret1 rfl (()) (trivial) rfl (fun _ h => Sb.own (by repeat' (first | with_reducible exact Sb.all | exact Sb.nil | (apply Sb.cons; focus (first | ((repeat (first | with_reducible exact Tk.here | with_reducible apply Tk.there)); done) | ((repeat (first | exact Tk.here | apply Tk.there)); done))) | apply Sb.drop)) h)
theorem v_may {w0 : World} {A : List HProp} {k n : Int} : Fun Tryd.prog w0 42 [.agg #[.int .i64 k, .int .i64 n]] A (Ret w0 (fun _ : Unit => True) (fun _ => .bool (decide (mayP k n))) (fun _ => A)) := by
  refine Fun.enter Tryd.func42 rfl Tryd.ntmps42 rfl ?_
  refine WC.seq <| WC.region <| bxc (v := .agg _) (cs := [.int _ _, .int _ _]) rfl rfl fun b1 =>sv (vaB rfl) <| WL.nil <| WX.thenN <| ?_
  refine WC.cutS [(2, .bool (decide (mayP k n)))] [] trivial ?_ fun ρh => ?_
  · -- vault.go:36
    refine WC.region <| sv (vfldpz fl24f0 rfl) <| sv (vldc pl3 rfl) <| svs (veq rfl rfl) (fun q1 => ?_) (fun q1 => ?_)
    ·
      refine sv (vmB rfl) <| sng rfl <| sng rfl <| sng rfl <| sv (vpkt rfl) <| sv (vmB rfl) <| svg rfl (vfldp fl24f1 rfl) <| svg rfl (vldc pl3 rfl) <| svsg rfl (vge rfl rfl) (fun q2 => ?_) (fun q2 => ?_)
      ·
        exact sv (vpkt rfl) <| sv (vmB rfl) <| svg rfl (vfldp fl24f1 rfl) <| svg rfl (vldc pl3 rfl) <| svg rfl (vlt rfl rfl) <| sv (vpkt rfl) <| sv (vaB rfl) <| WL.nil <| WX.mid () trivial ⟨bI (by unfold mayP; omega), trivial⟩ trivial (fun _ h => Sb.own (by repeat' (first | with_reducible exact Sb.all | exact Sb.nil | (apply Sb.cons; focus (first | ((repeat (first | with_reducible exact Tk.here | with_reducible apply Tk.there)); done) | ((repeat (first | exact Tk.here | apply Tk.there)); done))) | apply Sb.drop)) h)
      ·
        exact sv (vpkt rfl) <| sv (vmB rfl) <| sng rfl <| sng rfl <| sng rfl <| sv (vpkf rfl) <| sv (vaB rfl) <| WL.nil <| WX.mid () trivial ⟨bF (by unfold mayP; omega), trivial⟩ trivial (fun _ h => Sb.own (by repeat' (first | with_reducible exact Sb.all | exact Sb.nil | (apply Sb.cons; focus (first | ((repeat (first | with_reducible exact Tk.here | with_reducible apply Tk.there)); done) | ((repeat (first | exact Tk.here | apply Tk.there)); done))) | apply Sb.drop)) h)
    ·
      refine sv (vmB rfl) <| svg rfl (vfldpz fl24f0 rfl) <| svg rfl (vldc pl3 rfl) <| svsg rfl (veq rfl rfl) (fun q3 => ?_) (fun q3 => ?_)
      ·
        refine sv (vpkf rfl) <| sv (vmB rfl) <| svg rfl (vfldp fl24f1 rfl) <| svg rfl (vldc pl3 rfl) <| svsg rfl (vge rfl rfl) (fun q4 => ?_) (fun q4 => ?_)
        ·
          exact sv (vpkt rfl) <| sv (vmB rfl) <| svg rfl (vfldp fl24f1 rfl) <| svg rfl (vldc pl3 rfl) <| svg rfl (vlt rfl rfl) <| sv (vpkt rfl) <| sv (vaB rfl) <| WL.nil <| WX.mid () trivial ⟨bI (by unfold mayP; omega), trivial⟩ trivial (fun _ h => Sb.own (by repeat' (first | with_reducible exact Sb.all | exact Sb.nil | (apply Sb.cons; focus (first | ((repeat (first | with_reducible exact Tk.here | with_reducible apply Tk.there)); done) | ((repeat (first | exact Tk.here | apply Tk.there)); done))) | apply Sb.drop)) h)
        ·
          exact sv (vpkt rfl) <| sv (vmB rfl) <| sng rfl <| sng rfl <| sng rfl <| sv (vpkf rfl) <| sv (vaB rfl) <| WL.nil <| WX.mid () trivial ⟨bF (by unfold mayP; omega), trivial⟩ trivial (fun _ h => Sb.own (by repeat' (first | with_reducible exact Sb.all | exact Sb.nil | (apply Sb.cons; focus (first | ((repeat (first | with_reducible exact Tk.here | with_reducible apply Tk.there)); done) | ((repeat (first | exact Tk.here | apply Tk.there)); done))) | apply Sb.drop)) h)
      ·
        exact sv (vpkf rfl) <| sv (vmB rfl) <| sng rfl <| sng rfl <| sng rfl <| sv (vpkf rfl) <| sv (vmB rfl) <| sng rfl <| sng rfl <| sng rfl <| sv (vpkf rfl) <| sv (vaB rfl) <| WL.nil <| WX.mid () trivial ⟨bF (by unfold mayP; omega), trivial⟩ trivial (fun _ h => Sb.own (by repeat' (first | with_reducible exact Sb.all | exact Sb.nil | (apply Sb.cons; focus (first | ((repeat (first | with_reducible exact Tk.here | with_reducible apply Tk.there)); done) | ((repeat (first | exact Tk.here | apply Tk.there)); done))) | apply Sb.drop)) h)
  exact WC.ret <| WX.ret1 rfl (()) (trivial) rfl (fun _ h => Sb.own (by repeat' (first | with_reducible exact Sb.all | exact Sb.nil | (apply Sb.cons; focus (first | ((repeat (first | with_reducible exact Tk.here | with_reducible apply Tk.there)); done) | ((repeat (first | exact Tk.here | apply Tk.there)); done))) | apply Sb.drop)) h)
abbrev pkl (k : PK) : List Value := [.string k.flow, .int .i64 k.num, .int .i64 k.kind, .int .i64 k.n]
abbrev pkv (k : PK) : Value := .agg (pkl k).toArray
theorem pkv_inj {a b : PK} (h : pkv a = pkv b) : a = b := by
  obtain ⟨f, n, k, m⟩ := a
  obtain ⟨f', n', k', m'⟩ := b
  simp only [pkv, pkl, Value.agg.injEq, List.toArray_eq_toArray_eq, List.cons.injEq, Value.string.injEq, Value.int.injEq, true_and, and_true] at h
  obtain ⟨rfl, rfl, rfl, rfl⟩ := h
  rfl
abbrev KP : Value → Prop := fun v => ∃ l, keyOf Tryd.prog 62 v = some l
theorem place_law : KeyK Tryd.prog 62 KP := KeyK.deep (m := 5) (by omega) (by kernel_rfl) (by kernel_rfl) (by kernel_rfl)
structure PkOk (k : PK) : Prop where
  flow : k.flow.size ≤ 140737488351232
  num : -9223372036854775808 ≤ k.num ∧ k.num ≤ 9223372036854775807
  kind : -9223372036854775808 ≤ k.kind ∧ k.kind ≤ 9223372036854775807
  n : -9223372036854775808 ≤ k.n ∧ k.n ≤ 9223372036854775807
theorem wf64 {n : Int} (h : -9223372036854775808 ≤ n ∧ n ≤ 9223372036854775807) : (Lit.int .i64 n).wf = true := by
  have e1 : IntKind.i64.min = -9223372036854775808 := by decide
  have e2 : IntKind.i64.max = 9223372036854775807 := by decide
  simp [Lit.wf, IntKind.has, e1, e2]
  omega
theorem kp_ok {k : PK} (h : PkOk k) : KP (pkv k) := by
  obtain ⟨d, hd⟩ : ∃ d, Tryd.prog.types.size = d + 2 := ⟨Tryd.prog.types.size - 2, by
    have : Nat.ble 2 Tryd.prog.types.size = true := by kernel_rfl
    have := Nat.le_of_ble_eq_true this
    omega⟩
  refine keyOf_struct (l := [(9, 0, 1), (3, 1, 1), (24, 2, 2)]) (cs := pkl k) (ls := [[.string k.flow.data.toList], [.int .i64 k.num], [[Lit.int .i64 k.kind], [Lit.int .i64 k.n]].flatten]) (by kernel_rfl) (by kernel_rfl) hd (by kernel_rfl) ?_
  have h1 : Tryd.prog.keyLits (d + 2) 9 [.string k.flow] = some [.string k.flow.data.toList] := kl_str Tryd.underlying9 (by have := h.flow; unfold maxLen; omega)
  have h2 : Tryd.prog.keyLits (d + 2) 3 [.int .i64 k.num] = some [.int .i64 k.num] := kl_int Tryd.underlying3 (wf64 h.num)
  have h5 : Tryd.prog.keyLits (d + 1) 3 [.int .i64 k.kind] = some [.int .i64 k.kind] := kl_int Tryd.underlying3 (wf64 h.kind)
  have h6 : Tryd.prog.keyLits (d + 1) 3 [.int .i64 k.n] = some [.int .i64 k.n] := kl_int Tryd.underlying3 (wf64 h.n)
  have h3 : Tryd.prog.keyLits (d + 2) 24 [.int .i64 k.kind, .int .i64 k.n] = some [[Lit.int .i64 k.kind], [Lit.int .i64 k.n]].flatten := by
    refine kl_fields (l := [(3, 0, 1), (3, 1, 1)]) (by kernel_rfl) (by kernel_rfl) ?_
    simp only [List.mapM_cons, List.mapM_nil, List.drop_zero, List.take_succ_cons, List.take_zero, List.drop_succ_cons, h5, h6]
    rfl
  simp only [List.mapM_cons, List.mapM_nil, List.drop_zero, List.take_succ_cons, List.take_zero, List.drop_succ_cons, h1, h2, h3]
  rfl
end Go.Proofs.YthljpljbpbkkcaaDoor
