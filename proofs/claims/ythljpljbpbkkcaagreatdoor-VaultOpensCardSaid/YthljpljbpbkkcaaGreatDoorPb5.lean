/-
  Texts one behind the other: VaultRefA, VaultRefB, VaultRefC, SlSort, LayI, VaultNumbers, VaultSpecG, VaultRefD, VaultRefE, VaultLawA, VaultLawB.
-/
import Derived.Shelf.Sort.Plain
import Derived.Shelf.Slices.In.SortNone
import Derived.Test.YthljpljbpbkkcaaGreatDoorProg
import Derived.Test.YthljpljbpbkkcaaGreatDoorPb4
section
set_option linter.unusedVariables false
set_option linter.unusedSimpArgs false
set_option maxRecDepth 4000
namespace Go.Proofs.YthljpljbpbkkcaaGreatDoor
open Go.Sl Go.RowKit Go.Pack Go.Vault Go.Journal

theorem ref_number {w0 : World} {A : List HProp} {n : Int} : Fun Tryz.prog w0 44 [.int .i64 n] A (Ret w0 (fun _ : Unit => True) (fun _ => .bool (decide (cntP n))) (fun _ => A)) := by
  refine Fun.enter Tryz.func44 rfl Tryz.ntmps44 rfl ?_
  refine WC.seq <| WC.region <| sv (vaB rfl) <| WL.nil <| WX.thenN <| ?_
  refine WC.cutS [(2, .bool (decide (cntP n)))] [] trivial ?_ fun ρh => ?_
  · -- ref.go:28
    refine WC.region <| sv (vmI rfl) <| svs (vge rfl rfl) (fun q1 => ?_) (fun q1 => ?_)
    ·
      exact sv (vmB rfl) <| svg rfl (vmI rfl) <| svg rfl (vle rfl rfl) <| sv (vpkt rfl) <| sv (vaB rfl) <| WL.nil <| WX.mid () trivial ⟨bI (by unfold cntP; omega), trivial⟩ trivial (fun _ h => Sb.own (by repeat' (first | with_reducible exact Sb.all | exact Sb.nil | (apply Sb.cons; focus (first | ((repeat (first | with_reducible exact Tk.here | with_reducible apply Tk.there)); done) | ((repeat (first | exact Tk.here | apply Tk.there)); done))) | apply Sb.drop)) h)
    ·
      exact sv (vmB rfl) <| sng rfl <| sng rfl <| sv (vpkf rfl) <| sv (vaB rfl) <| WL.nil <| WX.mid () trivial ⟨bF (by unfold cntP; omega), trivial⟩ trivial (fun _ h => Sb.own (by repeat' (first | with_reducible exact Sb.all | exact Sb.nil | (apply Sb.cons; focus (first | ((repeat (first | with_reducible exact Tk.here | with_reducible apply Tk.there)); done) | ((repeat (first | exact Tk.here | apply Tk.there)); done))) | apply Sb.drop)) h)
  exact WC.ret <| WX.ret1 rfl (()) (trivial) rfl (fun _ h => Sb.own (by repeat' (first | with_reducible exact Sb.all | exact Sb.nil | (apply Sb.cons; focus (first | ((repeat (first | with_reducible exact Tk.here | with_reducible apply Tk.there)); done) | ((repeat (first | exact Tk.here | apply Tk.there)); done))) | apply Sb.drop)) h)
theorem ref_part {w0 : World} {A : List HProp} {k n : Int} : Fun Tryz.prog w0 45 [.agg #[.int .i64 k, .int .i64 n]] A (Ret w0 (fun _ : Unit => True) (fun _ => .bool (decide (mayP k n))) (fun _ => A)) := by
  refine Fun.enter Tryz.func45 rfl Tryz.ntmps45 rfl ?_
  refine WC.seq <| WC.region <| bxc (v := .agg _) (cs := [.int _ _, .int _ _]) rfl rfl fun b1 => sv (vaB rfl) <| WL.nil <| WX.thenN <| ?_
  refine WC.cutS [(2, .bool (decide (mayP k n)))] [] trivial ?_ fun ρh => ?_
  · -- ref.go:32
    refine WC.region <| sv (vfldpz fl46f0 rfl) <| sv (vldc pl3 rfl) <| svs (veq rfl rfl) (fun q1 => ?_) (fun q1 => ?_)
    ·
      refine sv (vmB rfl) <| sng rfl <| sng rfl <| sng rfl <| sv (vpkt rfl) <| sv (vmB rfl) <| svg rfl (vfldp fl46f1 rfl) <| svg rfl (vldc pl3 rfl) <| svsg rfl (vge rfl rfl) (fun q2 => ?_) (fun q2 => ?_)
      ·
        exact sv (vpkt rfl) <| sv (vmB rfl) <| svg rfl (vfldp fl46f1 rfl) <| svg rfl (vldc pl3 rfl) <| svg rfl (vlt rfl rfl) <| sv (vpkt rfl) <| sv (vaB rfl) <| WL.nil <| WX.mid () trivial ⟨bI (by unfold mayP; omega), trivial⟩ trivial (fun _ h => Sb.own (by repeat' (first | with_reducible exact Sb.all | exact Sb.nil | (apply Sb.cons; focus (first | ((repeat (first | with_reducible exact Tk.here | with_reducible apply Tk.there)); done) | ((repeat (first | exact Tk.here | apply Tk.there)); done))) | apply Sb.drop)) h)
      ·
        exact sv (vpkt rfl) <| sv (vmB rfl) <| sng rfl <| sng rfl <| sng rfl <| sv (vpkf rfl) <| sv (vaB rfl) <| WL.nil <| WX.mid () trivial ⟨bF (by unfold mayP; omega), trivial⟩ trivial (fun _ h => Sb.own (by repeat' (first | with_reducible exact Sb.all | exact Sb.nil | (apply Sb.cons; focus (first | ((repeat (first | with_reducible exact Tk.here | with_reducible apply Tk.there)); done) | ((repeat (first | exact Tk.here | apply Tk.there)); done))) | apply Sb.drop)) h)
    ·
      refine sv (vmB rfl) <| svg rfl (vfldpz fl46f0 rfl) <| svg rfl (vldc pl3 rfl) <| svsg rfl (veq rfl rfl) (fun q3 => ?_) (fun q3 => ?_)
      ·
        refine sv (vpkf rfl) <| sv (vmB rfl) <| svg rfl (vfldp fl46f1 rfl) <| svg rfl (vldc pl3 rfl) <| svsg rfl (vge rfl rfl) (fun q4 => ?_) (fun q4 => ?_)
        ·
          exact sv (vpkt rfl) <| sv (vmB rfl) <| svg rfl (vfldp fl46f1 rfl) <| svg rfl (vldc pl3 rfl) <| svg rfl (vlt rfl rfl) <| sv (vpkt rfl) <| sv (vaB rfl) <| WL.nil <| WX.mid () trivial ⟨bI (by unfold mayP; omega), trivial⟩ trivial (fun _ h => Sb.own (by repeat' (first | with_reducible exact Sb.all | exact Sb.nil | (apply Sb.cons; focus (first | ((repeat (first | with_reducible exact Tk.here | with_reducible apply Tk.there)); done) | ((repeat (first | exact Tk.here | apply Tk.there)); done))) | apply Sb.drop)) h)
        ·
          exact sv (vpkt rfl) <| sv (vmB rfl) <| sng rfl <| sng rfl <| sng rfl <| sv (vpkf rfl) <| sv (vaB rfl) <| WL.nil <| WX.mid () trivial ⟨bF (by unfold mayP; omega), trivial⟩ trivial (fun _ h => Sb.own (by repeat' (first | with_reducible exact Sb.all | exact Sb.nil | (apply Sb.cons; focus (first | ((repeat (first | with_reducible exact Tk.here | with_reducible apply Tk.there)); done) | ((repeat (first | exact Tk.here | apply Tk.there)); done))) | apply Sb.drop)) h)
      ·
        exact sv (vpkf rfl) <| sv (vmB rfl) <| sng rfl <| sng rfl <| sng rfl <| sv (vpkf rfl) <| sv (vmB rfl) <| sng rfl <| sng rfl <| sng rfl <| sv (vpkf rfl) <| sv (vaB rfl) <| WL.nil <| WX.mid () trivial ⟨bF (by unfold mayP; omega), trivial⟩ trivial (fun _ h => Sb.own (by repeat' (first | with_reducible exact Sb.all | exact Sb.nil | (apply Sb.cons; focus (first | ((repeat (first | with_reducible exact Tk.here | with_reducible apply Tk.there)); done) | ((repeat (first | exact Tk.here | apply Tk.there)); done))) | apply Sb.drop)) h)
  exact WC.ret <| WX.ret1 rfl (()) (trivial) rfl (fun _ h => Sb.own (by repeat' (first | with_reducible exact Sb.all | exact Sb.nil | (apply Sb.cons; focus (first | ((repeat (first | with_reducible exact Tk.here | with_reducible apply Tk.there)); done) | ((repeat (first | exact Tk.here | apply Tk.there)); done))) | apply Sb.drop)) h)
theorem ref5_name {w0 : World} {A : List HProp} {s : ByteArray} (hs : s.size ≤ 140737488351232) : Fun Tryz.prog w0 43 [.string s] A (Ret w0 (fun _ : Unit => True) (fun _ => .bool (decide (vName s))) (fun _ => A)) := by
  have hsl : s.data.toList.length = s.size := rfl
  refine Fun.enter Tryz.func43 rfl Tryz.ntmps43 rfl ?_
  refine WC.seq <| WC.region <| sv (vaB rfl) <| WL.nil <| WX.thenN <| WC.seq <| ?_
  refine WC.cutS [(12, .bool (decide (¬ (1 ≤ s.size ∧ s.size ≤ 16))))] [(0, .string _)] ⟨rfl, trivial⟩ ?_ fun ρh => ?_
  · -- ref.go:11
    refine WC.region <| sv (vmT rfl) <| sv (vlens Tryz.underlying9 rfl) <| svs (vlt rfl rfl) (fun q1 => ?_) (fun q1 => ?_)
    ·
      exact sv (vmB rfl) <| sng rfl <| sng rfl <| sng rfl <| sv (vpkt rfl) <| WL.nil <| WX.mid () trivial ⟨bT (by first | omega | simp_all | grind), trivial⟩ ⟨rfl, trivial⟩ (fun _ h => Sb.own (by repeat' (first | with_reducible exact Sb.all | exact Sb.nil | (apply Sb.cons; focus (first | ((repeat (first | with_reducible exact Tk.here | with_reducible apply Tk.there)); done) | ((repeat (first | exact Tk.here | apply Tk.there)); done))) | apply Sb.drop)) h)
    ·
      exact sv (vmB rfl) <| svg rfl (vmT rfl) <| svg rfl (vlens Tryz.underlying9 rfl) <| svg rfl (vgt rfl rfl) <| sv (vpkf rfl) <| WL.nil <| WX.mid () trivial ⟨bI (by first | omega | simp_all | grind), trivial⟩ ⟨rfl, trivial⟩ (fun _ h => Sb.own (by repeat' (first | with_reducible exact Sb.all | exact Sb.nil | (apply Sb.cons; focus (first | ((repeat (first | with_reducible exact Tk.here | with_reducible apply Tk.there)); done) | ((repeat (first | exact Tk.here | apply Tk.there)); done))) | apply Sb.drop)) h)
  refine WC.ite rfl (fun h1 => ?_) (fun h1 => ?_)
  · -- then
    exact WC.seq <| WC.region <| sv (vaB rfl) <| WL.nil <| WX.thenN <| WC.ret <| WX.thenR <| WX.ret1 rfl (()) (trivial) (bF (fun h => h1 (by have := h.1; have h2 := h.2.1; have : s.data.toList.length ≠ 0 := fun e => h.1 (List.eq_nil_of_length_eq_zero e); omega))) (fun _ h => Sb.own (by repeat' (first | with_reducible exact Sb.all | exact Sb.nil | (apply Sb.cons; focus (first | ((repeat (first | with_reducible exact Tk.here | with_reducible apply Tk.there)); done) | ((repeat (first | exact Tk.here | apply Tk.there)); done))) | apply Sb.drop)) h)
  · -- else
    have hn : 1 ≤ s.size ∧ s.size ≤ 16 := Decidable.not_not.1 h1
    refine WC.skip <| WX.thenN <| WC.seq <| WC.seq <| WC.region <| sv (vaI rfl) <| WL.nil <| WX.thenN <| WC.block <| ?_
    refine WC.loopS (ι := Nat) (fun i => [(3, .int .i64 i)]) [(0, .string _)] (fun i => i ≤ s.size ∧ ∀ c ∈ s.data.toList.take i, NmC c) (fun i => s.size - i) (0) (⟨Nat.zero_le _, fun c h => (by rw [List.take_zero] at h; cases h)⟩) ⟨rfl, trivial⟩ ⟨rfl, trivial⟩ ?_
    intro i hi ρh
    refine WC.seq <| WC.seq <| WC.region <| sv (vmI rfl) <| sv (vmT rfl) <| sv (vlens Tryz.underlying9 rfl) <| sv (vlt rfl rfl) <| WL.nil <| WX.thenN <| ?_
    refine WC.ite rfl (fun h2 => ?_) (fun h2 => ?_)
    · -- then
      have hil : i < s.size := by omega
      have hmem : s.data.toList.getD i 0 ∈ s.data.toList := by rw [List.getD_eq_getElem?_getD, List.getElem?_eq_getElem (by omega)]; exact List.getElem_mem _
      have htk : s.data.toList.take (i + 1) = s.data.toList.take i ++ [s.data.toList.getD i 0] := by rw [List.take_add_one, List.getD_eq_getElem?_getD, List.getElem?_eq_getElem (by omega)]; rfl
      obtain ⟨ch, hch⟩ : ∃ ch, s.data.toList.getD i 0 = ch := ⟨_, rfl⟩
      rw [hch] at hmem htk
      refine WC.skip <| WX.thenN <| WC.seq <| WC.block <| WC.seq <| WC.region <| sv (vmT rfl) <| sv (vmI rfl) <| sv (vixs (c := ch) Tryz.underlying9 rfl rfl (by omega) (by rw [← hch]; exact str_at hil)) <| sv (vaI rfl) <| WL.nil <| WX.thenN <| ?_
      refine WC.cutS [(39, .bool (decide (¬ NmC ch)))] [(0, .string _), (3, .int _ _)] ⟨rfl, rfl, trivial⟩ ?_ fun ρh => ?_
      · -- ref.go:16
        refine WC.region <| sv (vmI rfl) <| svs (vlt rfl rfl) (fun q2 => ?_) (fun q2 => ?_)
        ·
          refine sv (vmB rfl) <| sng rfl <| sng rfl <| sv (vpkt rfl) <| sv (vmB rfl) <| svg rfl (vmI rfl) <| svsg rfl (vlt rfl rfl) (fun q3 => ?_) (fun q3 => ?_)
          ·
            exact svg rfl (vmB rfl) <| sng rfl <| sng rfl <| svg rfl (vpkt rfl) <| sv (vpkt rfl) <| sv (vmB rfl) <| svg rfl (vmI rfl) <| svg rfl (vne rfl rfl) <| sv (vpkt rfl) <| WL.nil <| WX.mid () trivial ⟨bI (by unfold NmC; omega), trivial⟩ ⟨rfl, rfl, trivial⟩ (fun _ h => Sb.own (by repeat' (first | with_reducible exact Sb.all | exact Sb.nil | (apply Sb.cons; focus (first | ((repeat (first | with_reducible exact Tk.here | with_reducible apply Tk.there)); done) | ((repeat (first | exact Tk.here | apply Tk.there)); done))) | apply Sb.drop)) h)
          ·
            refine svg rfl (vmB rfl) <| svg rfl (vmI rfl) <| svsg rfl (vgt rfl rfl) (fun q4 => ?_) (fun q4 => ?_)
            ·
              exact svg rfl (vpkf rfl) <| sv (vpkt rfl) <| sv (vmB rfl) <| svg rfl (vmI rfl) <| svg rfl (vne rfl rfl) <| sv (vpkt rfl) <| WL.nil <| WX.mid () trivial ⟨bI (by unfold NmC; omega), trivial⟩ ⟨rfl, rfl, trivial⟩ (fun _ h => Sb.own (by repeat' (first | with_reducible exact Sb.all | exact Sb.nil | (apply Sb.cons; focus (first | ((repeat (first | with_reducible exact Tk.here | with_reducible apply Tk.there)); done) | ((repeat (first | exact Tk.here | apply Tk.there)); done))) | apply Sb.drop)) h)
            ·
              exact svg rfl (vpkf rfl) <| sv (vpkt rfl) <| sv (vmB rfl) <| sng rfl <| sng rfl <| sv (vpkf rfl) <| WL.nil <| WX.mid () trivial ⟨bF (by unfold NmC; omega), trivial⟩ ⟨rfl, rfl, trivial⟩ (fun _ h => Sb.own (by repeat' (first | with_reducible exact Sb.all | exact Sb.nil | (apply Sb.cons; focus (first | ((repeat (first | with_reducible exact Tk.here | with_reducible apply Tk.there)); done) | ((repeat (first | exact Tk.here | apply Tk.there)); done))) | apply Sb.drop)) h)
        ·
          refine sv (vmB rfl) <| svg rfl (vmI rfl) <| svsg rfl (vgt rfl rfl) (fun q5 => ?_) (fun q5 => ?_)
          ·
            refine sv (vpkf rfl) <| sv (vmB rfl) <| svg rfl (vmI rfl) <| svsg rfl (vlt rfl rfl) (fun q6 => ?_) (fun q6 => ?_)
            ·
              exact svg rfl (vmB rfl) <| sng rfl <| sng rfl <| svg rfl (vpkt rfl) <| sv (vpkt rfl) <| sv (vmB rfl) <| svg rfl (vmI rfl) <| svg rfl (vne rfl rfl) <| sv (vpkt rfl) <| WL.nil <| WX.mid () trivial ⟨bI (by unfold NmC; omega), trivial⟩ ⟨rfl, rfl, trivial⟩ (fun _ h => Sb.own (by repeat' (first | with_reducible exact Sb.all | exact Sb.nil | (apply Sb.cons; focus (first | ((repeat (first | with_reducible exact Tk.here | with_reducible apply Tk.there)); done) | ((repeat (first | exact Tk.here | apply Tk.there)); done))) | apply Sb.drop)) h)
            ·
              refine svg rfl (vmB rfl) <| svg rfl (vmI rfl) <| svsg rfl (vgt rfl rfl) (fun q7 => ?_) (fun q7 => ?_)
              ·
                exact svg rfl (vpkf rfl) <| sv (vpkt rfl) <| sv (vmB rfl) <| svg rfl (vmI rfl) <| svg rfl (vne rfl rfl) <| sv (vpkt rfl) <| WL.nil <| WX.mid () trivial ⟨bI (by unfold NmC; omega), trivial⟩ ⟨rfl, rfl, trivial⟩ (fun _ h => Sb.own (by repeat' (first | with_reducible exact Sb.all | exact Sb.nil | (apply Sb.cons; focus (first | ((repeat (first | with_reducible exact Tk.here | with_reducible apply Tk.there)); done) | ((repeat (first | exact Tk.here | apply Tk.there)); done))) | apply Sb.drop)) h)
              ·
                exact svg rfl (vpkf rfl) <| sv (vpkt rfl) <| sv (vmB rfl) <| sng rfl <| sng rfl <| sv (vpkf rfl) <| WL.nil <| WX.mid () trivial ⟨bF (by unfold NmC; omega), trivial⟩ ⟨rfl, rfl, trivial⟩ (fun _ h => Sb.own (by repeat' (first | with_reducible exact Sb.all | exact Sb.nil | (apply Sb.cons; focus (first | ((repeat (first | with_reducible exact Tk.here | with_reducible apply Tk.there)); done) | ((repeat (first | exact Tk.here | apply Tk.there)); done))) | apply Sb.drop)) h)
          ·
            exact sv (vpkf rfl) <| sv (vmB rfl) <| sng rfl <| sng rfl <| sng rfl <| sng rfl <| sng rfl <| sng rfl <| sv (vpkf rfl) <| sv (vmB rfl) <| sng rfl <| sng rfl <| sv (vpkf rfl) <| WL.nil <| WX.mid () trivial ⟨bF (by unfold NmC; omega), trivial⟩ ⟨rfl, rfl, trivial⟩ (fun _ h => Sb.own (by repeat' (first | with_reducible exact Sb.all | exact Sb.nil | (apply Sb.cons; focus (first | ((repeat (first | with_reducible exact Tk.here | with_reducible apply Tk.there)); done) | ((repeat (first | exact Tk.here | apply Tk.there)); done))) | apply Sb.drop)) h)
      refine WC.ite rfl (fun h3 => ?_) (fun h3 => ?_)
      · -- then
        exact WC.seq <| WC.region <| sv (vaB rfl) <| WL.nil <| WX.thenN <| WC.ret <| WX.blockR <| WX.thenR <| WX.thenR <| WX.blockR <| WX.thenR <| WX.ret1 rfl (()) (trivial) (bF (fun h => h3 (h.2.2 ch hmem))) (fun _ h => Sb.own (by repeat' (first | with_reducible exact Sb.all | exact Sb.nil | (apply Sb.cons; focus (first | ((repeat (first | with_reducible exact Tk.here | with_reducible apply Tk.there)); done) | ((repeat (first | exact Tk.here | apply Tk.there)); done))) | apply Sb.drop)) h)
      · -- else
        exact WC.skip <| WX.blockN <| WX.thenN <| WC.region <| sv (vmI rfl) <| sv (vadd rfl rfl (by omega)) <| sv (vaI rfl) <| WL.nil <| WX.again (i + 1) (⟨by omega, fun c hc => by rw [htk] at hc; rcases List.mem_append.1 hc with hc | hc; exact hi.2 c hc; rw [List.mem_singleton] at hc; rw [hc]; exact Decidable.not_not.1 h3⟩) (by omega) ⟨rfl, trivial⟩ ⟨rfl, trivial⟩ (fun _ h => Sb.own (by repeat' (first | with_reducible exact Sb.all | exact Sb.nil | (apply Sb.cons; focus (first | ((repeat (first | with_reducible exact Tk.here | with_reducible apply Tk.there)); done) | ((repeat (first | exact Tk.here | apply Tk.there)); done))) | apply Sb.drop)) h)
    · -- else
      exact WC.exit <| WX.thenE <| WX.thenE <| WX.blockH <| WX.thenN <| WC.seq <| WC.region <| sv (vaB rfl) <| WL.nil <| WX.thenN <| WC.ret <| WX.ret1 rfl (()) (trivial) (bT ⟨fun h => by rw [h] at hsl; simp at hsl; omega, hn.2, by have := hi.2; rwa [List.take_of_length_le (by omega)] at this⟩) (fun _ h => Sb.own (by repeat' (first | with_reducible exact Sb.all | exact Sb.nil | (apply Sb.cons; focus (first | ((repeat (first | with_reducible exact Tk.here | with_reducible apply Tk.there)); done) | ((repeat (first | exact Tk.here | apply Tk.there)); done))) | apply Sb.drop)) h)
end Go.Proofs.YthljpljbpbkkcaaGreatDoor
end
section
set_option linter.unusedVariables false
set_option linter.unusedSimpArgs false
set_option maxRecDepth 4000
namespace Go.Proofs.YthljpljbpbkkcaaGreatDoor
open Go.Sl Go.RowKit Go.Pack Go.Vault Go.Journal

abbrev vc6 (kind : Int) (f : ByteArray) (n pk pn : Int) (b : Sla UInt8) : List Value := [.int .i64 kind, .string f, .int .i64 n, .int .i64 pk, .int .i64 pn, .slice b.base b.xs.length b.cap]
theorem rrd_numV {w0 : World} {A B : List HProp} {r : Nat} {st : Option (List UInt8)} {x : Int} (hx : rnum st = x) (hBA : ∀ w, Own w0 A w → Own w0 B w) (hb : ∀ b, st = some b → b.length ≤ 1048576) :
    Fun Tryz.prog w0 69 [.pointer (some ⟨r, 0, none⟩)] (rrd w0 B r st :: A) (Ret w0 (fun _ : Unit => True) (fun _ => .int .i64 x) (fun _ => rrd w0 B r (rnumS st) :: A)) := by
  subst hx; exact rrd_num hBA fun b h => Nat.le_trans (hb b h) (by decide)
theorem rrd_textV {w0 : World} {A B : List HProp} {r : Nat} {st : Option (List UInt8)} {x : ByteArray} (hx : ⟨(txS st).toArray⟩ = x) (hBA : ∀ w, Own w0 A w → Own w0 B w) (hb : ∀ b, st = some b → b.length ≤ 1048576) :
    Fun Tryz.prog w0 70 [.pointer (some ⟨r, 0, none⟩)] (rrd w0 B r st :: A) (Ret w0 (fun _ : Unit => True) (fun _ => .string x) (fun _ => rrd w0 B r (txR st) :: A)) := by
  subst hx; exact rrd_text hBA fun b h => Nat.le_trans (hb b h) (by decide)
structure RdI where
  pk : Int
  pn : Int
  b : Sla UInt8
  st : Option (List UInt8)
structure RcI where
  kind : Int
  k : PK
  b : Sla UInt8
  ok : Bool
structure RcOk (bs : List UInt8) (i : RcI) : Prop where
  yes : i.ok = true → (i.kind = 1 ∧ readP bs = some (.put i.k i.b.xs)) ∨ (i.kind = 2 ∧ i.k.kind = 0 ∧ i.k.n = 0 ∧ i.b = ⟨none, [], 0⟩ ∧ readP bs = some (.drop i.k.flow i.k.num))
  no : i.ok = false → readP bs = none
  pk : PkOk i.k
  len : i.b.xs.length ≤ i.b.cap ∧ i.b.xs.length ≤ 1048576
theorem rc_ok {bs tx : List UInt8} {kind n pk pn qk qn : Int} {f : ByteArray} {s6 s3 st : Option (List UInt8)} {qb : Sla UInt8} (hrd : readP bs = if kind = 1 then (if s6 = some [] then some (.put ⟨f, n, pk, pn⟩ tx) else none) else if kind = 2 then (if s3 = some [] then some (.drop f n) else none) else none) (hk : PkOk ⟨f, n, pk, pn⟩) (htl : tx.length ≤ 1048576)
    (hi : if kind = 1 then qk = pk ∧ qn = pn ∧ qb.xs = tx ∧ qb.xs.length ≤ qb.cap ∧ st = s6 else qk = 0 ∧ qn = 0 ∧ qb = ⟨none, [], 0⟩ ∧ st = s3) : RcOk bs ⟨kind, ⟨f, n, qk, qn⟩, qb, decide (st = some [] ∧ (kind = 1 ∨ kind = 2))⟩ := by
  by_cases h1 : kind = 1
  · rw [if_pos h1] at hi hrd
    obtain ⟨rfl, rfl, rfl, hc, rfl⟩ := hi
    refine ⟨fun h => .inl ⟨h1, ?_⟩, fun h => ?_, hk, hc, htl⟩
    · rw [hrd, if_pos (of_decide_eq_true h).1]
    · rw [hrd, if_neg (fun h2 => of_decide_eq_false h ⟨h2, .inl h1⟩)]
  · rw [if_neg h1] at hi hrd
    obtain ⟨rfl, rfl, rfl, rfl⟩ := hi
    refine ⟨fun h => .inr ?_, fun h => ?_, ⟨hk.flow, hk.num, (show (-9223372036854775808 : Int) ≤ 0 ∧ (0 : Int) ≤ 9223372036854775807 by decide), (show (-9223372036854775808 : Int) ≤ 0 ∧ (0 : Int) ≤ 9223372036854775807 by decide)⟩, Nat.le_refl _, Nat.zero_le _⟩
    · have h2 := of_decide_eq_true h
      have h3 : kind = 2 := h2.2.resolve_left h1
      exact ⟨h3, rfl, rfl, rfl, by rw [hrd, if_pos h3, if_pos h2.1]⟩
    · rw [hrd]
      by_cases h3 : kind = 2
      · rw [if_pos h3, if_neg (fun h2 => of_decide_eq_false h ⟨h2, .inr h3⟩)]
      · rw [if_neg h3]
theorem ref_read16 {w0 : World} {A : List HProp} {base : Option Addr} {c : Nat} {bs : List UInt8} [hR : Reads w0 A base (u8s bs)] (hl : bs.length ≤ 1048576) (hc : bs.length ≤ c) :
    Fun Tryz.prog w0 39 [.slice base bs.length c] A (Ret w0 (RcOk bs) (fun i => .tuple #[.agg (vc6 i.kind i.k.flow i.k.num i.k.kind i.k.n i.b).toArray, .bool i.ok]) (fun i => row i.b.base i.b.cap 1 5 (u8s i.b.xs) :: A)) := by
  obtain ⟨s0, h0⟩ : ∃ s : Option (List UInt8), s = some bs := ⟨_, rfl⟩
  obtain ⟨s1, e1⟩ : ∃ s, s = rnumS s0 := ⟨_, rfl⟩
  obtain ⟨s2, e2⟩ : ∃ s, s = txR s1 := ⟨_, rfl⟩
  obtain ⟨s3, e3⟩ : ∃ s, s = rnumS s2 := ⟨_, rfl⟩
  obtain ⟨s4, e4⟩ : ∃ s, s = rnumS s3 := ⟨_, rfl⟩
  obtain ⟨s5, e5⟩ : ∃ s, s = rnumS s4 := ⟨_, rfl⟩
  obtain ⟨s6, e6⟩ : ∃ s, s = txR s5 := ⟨_, rfl⟩
  obtain ⟨kind, ek⟩ : ∃ x, rnum s0 = x := ⟨_, rfl⟩
  obtain ⟨f, ef⟩ : ∃ x : ByteArray, ⟨(txS s1).toArray⟩ = x := ⟨_, rfl⟩
  obtain ⟨n, en⟩ : ∃ x, rnum s2 = x := ⟨_, rfl⟩
  obtain ⟨pk, ep⟩ : ∃ x, rnum s3 = x := ⟨_, rfl⟩
  obtain ⟨pn, eq⟩ : ∃ x, rnum s4 = x := ⟨_, rfl⟩
  obtain ⟨tx, et⟩ : ∃ x : ByteArray, ⟨(txS s5).toArray⟩ = x := ⟨_, rfl⟩
  have hrd : readP bs = if kind = 1 then (if s6 = some [] then some (.put ⟨f, n, pk, pn⟩ tx.data.toList) else none) else if kind = 2 then (if s3 = some [] then some (.drop f n) else none) else none := by
    subst h0 e1 e2 e3 e4 e5 e6 ek ef en ep eq et; rfl
  have u0 : ∀ b, s0 = some b → b.length ≤ 1048576 := fun b h => by rw [h0] at h; cases h; exact hl
  have u1 : ∀ b, s1 = some b → b.length ≤ 1048576 := by rw [e1]; exact rnumS_leV u0
  have u2 : ∀ b, s2 = some b → b.length ≤ 1048576 := by rw [e2]; exact rtext_leV u1
  have u3 : ∀ b, s3 = some b → b.length ≤ 1048576 := by rw [e3]; exact rnumS_leV u2
  have u4 : ∀ b, s4 = some b → b.length ≤ 1048576 := by rw [e4]; exact rnumS_leV u3
  have u5 : ∀ b, s5 = some b → b.length ≤ 1048576 := by rw [e5]; exact rnumS_leV u4
  have hfl : f.size ≤ 1048576 := by rw [← ef]; exact txS_le u1
  have htl : tx.data.toList.length ≤ 1048576 := by rw [← et]; show (txS s5).toArray.toList.length ≤ _; rw [List.toList_toArray]; exact txS_le u5
  have hk : PkOk ⟨f, n, pk, pn⟩ := ⟨by show f.size ≤ _; omega, by rw [← en]; exact rnum_in, by rw [← ep]; exact rnum_in, by rw [← eq]; exact rnum_in⟩
  refine Fun.enter Tryz.func39 rfl Tryz.ntmps39 rfl ?_
  refine WC.seq <| WC.region <| alz (cs := [.int .i64 0, .string ByteArray.empty, .int .i64 0, .int .i64 0, .int .i64 0, .slice none 0 0]) zt57 (by rfl) fun b1 => sv (vaB rfl) <| WL.nil <| WX.thenN <| WC.seq <| WC.region <| sv (vmS rfl) <| sv (vbd (ps := [(0, .slice _ _ _)]) (cs := [_, _]) bt125 zt125 rfl (by rfl)) <| bxc (v := .agg _) (cs := [.slice _ _ _, .bool _]) rfl rfl fun b3 => sv (vaP rfl) <| WL.nil <| WX.thenN <| WC.seq <| WC.region <| alz (cs := [.int .i64 0, .string ByteArray.empty, .int .i64 0, .int .i64 0, .int .i64 0, .slice none 0 0]) zt57 (by rfl) fun b4 => WL.nil <| WX.thenN <| WC.seq <| WC.region <| sv (vmP rfl) <| pm (fun _ h => (show Own w0 (rrd w0 A b3 s0 :: cel b4 (vc6 0 ByteArray.empty 0 0 0 ⟨none, [], 0⟩) 57 :: cel b1 (vc6 0 ByteArray.empty 0 0 0 ⟨none, [], 0⟩) 57 :: A) _ from by subst h0; exact rrd_mk (st := some bs) hc hR.rd (fun b h => by cases h; rfl) (Sb.own (by repeat' (first | with_reducible exact Sb.all | exact Sb.nil | (apply Sb.cons; focus (first | ((repeat (first | with_reducible exact Tk.here | with_reducible apply Tk.there)); done) | ((repeat (first | exact Tk.here | apply Tk.there)); done))) | apply Sb.drop)) h))) <| clx (by repeat' (first | with_reducible exact Sb.all | exact Sb.nil | (apply Sb.cons; focus (first | ((repeat (first | with_reducible exact Tk.here | with_reducible apply Tk.there)); done) | ((repeat (first | exact Tk.here | apply Tk.there)); done))) | apply Sb.drop)) (rrd_numV ek (fun w h => Sb.own (by repeat' (first | with_reducible exact Sb.all | exact Sb.nil | (apply Sb.cons; focus (first | ((repeat (first | with_reducible exact Tk.here | with_reducible apply Tk.there)); done) | ((repeat (first | exact Tk.here | apply Tk.there)); done))) | apply Sb.drop)) h) u0) ct69 rfl fun r5 hr5 => ?_
  rw [← e1]
  refine sv (vfldpz fl57f0 rfl) <| stp (v := .int _ _) pl3 sz3 rfl rfl rfl <| WL.nil <| WX.thenN <| WC.seq <| WC.region <| sv (vmP rfl) <| clx (by repeat' (first | with_reducible exact Sb.all | exact Sb.nil | (apply Sb.cons; focus (first | ((repeat (first | with_reducible exact Tk.here | with_reducible apply Tk.there)); done) | ((repeat (first | exact Tk.here | apply Tk.there)); done))) | apply Sb.drop)) (rrd_textV ef (fun w h => Sb.own (by repeat' (first | with_reducible exact Sb.all | exact Sb.nil | (apply Sb.cons; focus (first | ((repeat (first | with_reducible exact Tk.here | with_reducible apply Tk.there)); done) | ((repeat (first | exact Tk.here | apply Tk.there)); done))) | apply Sb.drop)) h) u1) ct70 rfl fun r7 hr7 => ?_
  rw [← e2]
  refine sv (vfldp fl57f1 rfl) <| stp (v := .string _) pl9 sz9 rfl rfl rfl <| WL.nil <| WX.thenN <| WC.seq <| WC.region <| sv (vmP rfl) <| clx (by repeat' (first | with_reducible exact Sb.all | exact Sb.nil | (apply Sb.cons; focus (first | ((repeat (first | with_reducible exact Tk.here | with_reducible apply Tk.there)); done) | ((repeat (first | exact Tk.here | apply Tk.there)); done))) | apply Sb.drop)) (rrd_numV en (fun w h => Sb.own (by repeat' (first | with_reducible exact Sb.all | exact Sb.nil | (apply Sb.cons; focus (first | ((repeat (first | with_reducible exact Tk.here | with_reducible apply Tk.there)); done) | ((repeat (first | exact Tk.here | apply Tk.there)); done))) | apply Sb.drop)) h) u2) ct69 rfl fun r9 hr9 => ?_
  rw [← e3]
  refine sv (vfldp fl57f2 rfl) <| stp (v := .int _ _) pl3 sz3 rfl rfl rfl <| WL.nil <| WX.thenN <| ?_
  refine WC.cutv (ι := RdI) (fun i => []) [(2, _), (4, .pointer _), (5, _)] (fun i => cel b4 (vc6 kind f n i.pk i.pn i.b) 57 :: rrd w0 A b3 i.st :: row i.b.base i.b.cap 1 5 (u8s i.b.xs) :: cel b1 (vc6 0 ByteArray.empty 0 0 0 ⟨none, [], 0⟩) 57 :: A) (fun i => if kind = 1 then i.pk = pk ∧ i.pn = pn ∧ i.b.xs = tx.data.toList ∧ i.b.xs.length ≤ i.b.cap ∧ i.st = s6 else i.pk = 0 ∧ i.pn = 0 ∧ i.b = ⟨none, [], 0⟩ ∧ i.st = s3) ⟨rfl, rfl, rfl, trivial⟩ ?_ ?_
  · -- up to the join
    refine WC.seq <| WC.region <| sv (vfldpz fl57f0 rfl) <| sv (vldc pl3 rfl) <| sv (veq rfl rfl) <| WL.nil <| WX.thenN <| ?_
    refine WC.ite rfl (fun h1 => ?_) (fun h1 => ?_)
    · -- then
      refine WC.seq <| WC.region <| sv (vmP rfl) <| clx (by repeat' (first | with_reducible exact Sb.all | exact Sb.nil | (apply Sb.cons; focus (first | ((repeat (first | with_reducible exact Tk.here | with_reducible apply Tk.there)); done) | ((repeat (first | exact Tk.here | apply Tk.there)); done))) | apply Sb.drop)) (rrd_numV ep (fun w h => Sb.own (by repeat' (first | with_reducible exact Sb.all | exact Sb.nil | (apply Sb.cons; focus (first | ((repeat (first | with_reducible exact Tk.here | with_reducible apply Tk.there)); done) | ((repeat (first | exact Tk.here | apply Tk.there)); done))) | apply Sb.drop)) h) u3) ct69 rfl fun r12 hr12 => ?_
      rw [← e4]
      refine sv (vfldp fl57f3 rfl) <| sv (vfldpz fl46f0 rfl) <| stp (v := .int _ _) pl3 sz3 rfl rfl rfl <| WL.nil <| WX.thenN <| WC.seq <| WC.region <| sv (vmP rfl) <| clx (by repeat' (first | with_reducible exact Sb.all | exact Sb.nil | (apply Sb.cons; focus (first | ((repeat (first | with_reducible exact Tk.here | with_reducible apply Tk.there)); done) | ((repeat (first | exact Tk.here | apply Tk.there)); done))) | apply Sb.drop)) (rrd_numV eq (fun w h => Sb.own (by repeat' (first | with_reducible exact Sb.all | exact Sb.nil | (apply Sb.cons; focus (first | ((repeat (first | with_reducible exact Tk.here | with_reducible apply Tk.there)); done) | ((repeat (first | exact Tk.here | apply Tk.there)); done))) | apply Sb.drop)) h) u4) ct69 rfl fun r14 hr14 => ?_
      rw [← e5]
      refine sv (vfldp fl57f3 rfl) <| sv (vfldp fl46f1 rfl) <| stp (v := .int _ _) pl3 sz3 rfl rfl rfl <| WL.nil <| WX.thenN <| WC.region <| sv (vmP rfl) <| clx (by repeat' (first | with_reducible exact Sb.all | exact Sb.nil | (apply Sb.cons; focus (first | ((repeat (first | with_reducible exact Tk.here | with_reducible apply Tk.there)); done) | ((repeat (first | exact Tk.here | apply Tk.there)); done))) | apply Sb.drop)) (rrd_textV et (fun w h => Sb.own (by repeat' (first | with_reducible exact Sb.all | exact Sb.nil | (apply Sb.cons; focus (first | ((repeat (first | with_reducible exact Tk.here | with_reducible apply Tk.there)); done) | ((repeat (first | exact Tk.here | apply Tk.there)); done))) | apply Sb.drop)) h) u5) ct70 rfl fun r16 hr16 => ?_
      rw [← e6]
      exact cvs Tryz.underlying9 Tryz.underlying23 Tryz.underlying5 rfl (by simp only [maxLen]; show tx.data.toList.length ≤ _; omega) fun b17 c17 hc17 =>sv (vfldp fl57f4 rfl) <| stp (v := .slice _ _ _) pl23 sz23 rfl rfl rfl <| WL.nil <| WX.mid (⟨pk, pn, ⟨some ⟨b17, 0, none⟩, tx.data.toList, c17⟩, s6⟩) (by rw [if_pos h1]; exact ⟨rfl, rfl, rfl, hc17, rfl⟩) trivial ⟨rfl, rfl, rfl, trivial⟩ (fun _ h => Sb.own (by repeat' (first | with_reducible exact Sb.all | exact Sb.nil | (apply Sb.cons; focus (first | ((repeat (first | with_reducible exact Tk.here | with_reducible apply Tk.there)); done) | ((repeat (first | exact Tk.here | apply Tk.there)); done))) | apply Sb.drop)) h)
    · -- else
      exact WC.skip <| WX.mid (⟨0, 0, ⟨none, [], 0⟩, s3⟩) (by rw [if_neg h1]; exact ⟨rfl, rfl, rfl, rfl⟩) trivial ⟨rfl, rfl, rfl, trivial⟩ (fun w h => by have h2 := h.intro_row_nil (s := 1) (e := 5); exact Sb.own (by repeat' (first | with_reducible exact Sb.all | exact Sb.nil | (apply Sb.cons; focus (first | ((repeat (first | with_reducible exact Tk.here | with_reducible apply Tk.there)); done) | ((repeat (first | exact Tk.here | apply Tk.there)); done))) | apply Sb.drop)) h2)
  · -- behind the join
    rintro ⟨qk, qn, qb, st⟩ hi ρh
    dsimp only at hi ⊢
    refine WC.ex (B := fun x : Option Addr × Nat × List UInt8 => cel b3 [.slice x.1 x.2.2.length x.2.1, .bool st.isNone] 125 :: cel b4 (vc6 kind f n qk qn qb) 57 :: row qb.base qb.cap 1 5 (u8s qb.xs) :: cel b1 (vc6 0 ByteArray.empty 0 0 0 ⟨none, [], 0⟩) 57 :: A) (fun w h => rrd_open (Sb.own (by repeat' (first | with_reducible exact Sb.all | exact Sb.nil | (apply Sb.cons; focus (first | ((repeat (first | with_reducible exact Tk.here | with_reducible apply Tk.there)); done) | ((repeat (first | exact Tk.here | apply Tk.there)); done))) | apply Sb.drop)) h)) ?_
    rintro ⟨xb, xc, ds⟩ ⟨hxc, _, hxs⟩
    dsimp only at hxc hxs ⊢
    have hE0 : st = some [] → st.isNone = false ∧ ds = [] := fun h => ⟨by rw [h]; rfl, hxs [] h⟩
    have hE1 : st.isNone = false → (ds.length : Int) = 0 → st = some [] := fun h1 h2 => by have e0 : ds = [] := List.eq_nil_of_length_eq_zero (by omega); cases st with | none => cases h1 | some b => rw [← hxs b rfl, e0]
    refine WC.cut0 [(3, .bool (decide (st = some [] ∧ (kind = 1 ∨ kind = 2))))] [(2, _)] (cel b1 (vc6 kind f n qk qn qb) 57 :: row qb.base qb.cap 1 5 (u8s qb.xs) :: A) ⟨rfl, trivial⟩ ?_ fun ρh => ?_
    · -- ref.go:60
      refine WC.plan (.pre [0, 1, 2, 3, 4, 5, 6, 7, 8, 9, 10, 11, 12, 13, 14, 15, 16, 17, 18] (.one [19, 20, 21, 22, 23] 24 (.done [25]))) rfl (by kernel_rfl) <| WPl.preC <| dv (fun g => (vldac ag57 sz57 rfl rfl (by decide))) <| dv (fun g => (vmP rfl)) <| dv (fun g => (vnil rfl)) <| dv (fun g => (vfldp fl125f1 rfl)) <| dvb (fun g => (vldc pl4 rfl)) (fun q1 => ?_) (fun q1 => ?_)
      ·
        refine dv (fun g => (vnot rfl)) <| dv (fun g => (vmB rfl)) <| dng rfl <| dng rfl <| dng rfl <| dng rfl <| dng rfl <| dng rfl <| dv (fun g => (vpkf rfl)) <| dv (fun g => (vmB rfl)) <| dng rfl <| dng rfl <| dng rfl <| dng rfl <| WD.nil <| WPl.oneX [cel b1 _ _] (by repeat' (first | exact Spl.nil | (apply Spl.cons; focus (first | ((repeat (first | with_reducible exact Tk.here | with_reducible apply Tk.there)); done) | ((repeat (first | exact Tk.here | apply Tk.there)); done))))) (fun g => by infer_instance) ?_
        exact dng rfl <| dng rfl <| dng rfl <| dng rfl <| dv (fun g => (vpkf rfl)) <| WD.eff rfl <| stAp sz57 rfl rfl rfl (by intro v hv; simp only [List.mem_cons, List.not_mem_nil, or_false] at hv; rcases hv with rfl | rfl | rfl | rfl | rfl | rfl <;> rfl) rfl <| WL.nil <| WX.br <| WPl.finC <| dv (fun g => (vaB rfl)) <| WD.nil <| WX.mid () trivial ⟨bF (fun h => by rw [(hE0 h.1).1] at q1; cases q1), trivial⟩ ⟨rfl, trivial⟩ (fun _ h => Sb.own (by repeat' (first | with_reducible exact Sb.all | exact Sb.nil | (apply Sb.cons; focus (first | ((repeat (first | with_reducible exact Tk.here | with_reducible apply Tk.there)); done) | ((repeat (first | exact Tk.here | apply Tk.there)); done))) | apply Sb.drop)) h)
      ·
        refine dv (fun g => (vnot rfl)) <| dv (fun g => (vmB rfl)) <| dvg rfl (fun g => (vmP rfl)) <| dvg rfl (fun g => (vnil rfl)) <| dvg rfl (fun g => (vfldpz fl125f0 rfl)) <| dvg rfl (fun g => (vldc pl23 rfl)) <| dvg rfl (fun g => (vlen Tryz.underlying23 rfl)) <| dvsg rfl (fun g => (veq rfl rfl)) (fun q2 => ?_) (fun q2 => ?_)
        ·
          refine dv (fun g => (vpkt rfl)) <| dv (fun g => (vmB rfl)) <| dvg rfl (fun g => (vfldpz fl57f0 rfl)) <| dvg rfl (fun g => (vldc pl3 rfl)) <| dvsg rfl (fun g => (veq rfl rfl)) (fun q3 => ?_) (fun q3 => ?_)
          ·
            refine dvg rfl (fun g => (vmB rfl)) <| WD.nil <| WPl.oneX [cel b1 _ _] (by repeat' (first | exact Spl.nil | (apply Spl.cons; focus (first | ((repeat (first | with_reducible exact Tk.here | with_reducible apply Tk.there)); done) | ((repeat (first | exact Tk.here | apply Tk.there)); done))))) (fun g => by infer_instance) ?_
            exact dng rfl <| dng rfl <| dng rfl <| dvg rfl (fun g => (vpkt rfl)) <| dv (fun g => (vpkt rfl)) <| WD.eff rfl <| stAp sz57 rfl rfl rfl (by intro v hv; simp only [List.mem_cons, List.not_mem_nil, or_false] at hv; rcases hv with rfl | rfl | rfl | rfl | rfl | rfl <;> rfl) rfl <| WL.nil <| WX.br <| WPl.finC <| dv (fun g => (vaB rfl)) <| WD.nil <| WX.mid () trivial ⟨bT ⟨hE1 q1 q2, .inl q3⟩, trivial⟩ ⟨rfl, trivial⟩ (fun _ h => Sb.own (by repeat' (first | with_reducible exact Sb.all | exact Sb.nil | (apply Sb.cons; focus (first | ((repeat (first | with_reducible exact Tk.here | with_reducible apply Tk.there)); done) | ((repeat (first | exact Tk.here | apply Tk.there)); done))) | apply Sb.drop)) h)
          ·
            refine dvg rfl (fun g => (vmB rfl)) <| WD.nil <| WPl.oneX [cel b1 _ _] (by repeat' (first | exact Spl.nil | (apply Spl.cons; focus (first | ((repeat (first | with_reducible exact Tk.here | with_reducible apply Tk.there)); done) | ((repeat (first | exact Tk.here | apply Tk.there)); done))))) (fun g => by infer_instance) ?_
            exact dvg rfl (fun g => (vfldpz fl57f0 rfl)) <| dvg rfl (fun g => (vldc pl3 rfl)) <| dvg rfl (fun g => (veq rfl rfl)) <| dvg rfl (fun g => (vpkf rfl)) <| dv (fun g => (vpkt rfl)) <| WD.eff rfl <| stAp sz57 rfl rfl rfl (by intro v hv; simp only [List.mem_cons, List.not_mem_nil, or_false] at hv; rcases hv with rfl | rfl | rfl | rfl | rfl | rfl <;> rfl) rfl <| WL.nil <| WX.br <| WPl.finC <| dv (fun g => (vaB rfl)) <| WD.nil <| WX.mid () trivial ⟨bI ⟨fun h => ⟨hE1 q1 q2, .inr h⟩, fun h => h.2.resolve_left q3⟩, trivial⟩ ⟨rfl, trivial⟩ (fun _ h => Sb.own (by repeat' (first | with_reducible exact Sb.all | exact Sb.nil | (apply Sb.cons; focus (first | ((repeat (first | with_reducible exact Tk.here | with_reducible apply Tk.there)); done) | ((repeat (first | exact Tk.here | apply Tk.there)); done))) | apply Sb.drop)) h)
        ·
          refine dv (fun g => (vpkt rfl)) <| dv (fun g => (vmB rfl)) <| dng rfl <| dng rfl <| dng rfl <| dng rfl <| WD.nil <| WPl.oneX [cel b1 _ _] (by repeat' (first | exact Spl.nil | (apply Spl.cons; focus (first | ((repeat (first | with_reducible exact Tk.here | with_reducible apply Tk.there)); done) | ((repeat (first | exact Tk.here | apply Tk.there)); done))))) (fun g => by infer_instance) ?_
          exact dng rfl <| dng rfl <| dng rfl <| dng rfl <| dv (fun g => (vpkf rfl)) <| WD.eff rfl <| stAp sz57 rfl rfl rfl (by intro v hv; simp only [List.mem_cons, List.not_mem_nil, or_false] at hv; rcases hv with rfl | rfl | rfl | rfl | rfl | rfl <;> rfl) rfl <| WL.nil <| WX.br <| WPl.finC <| dv (fun g => (vaB rfl)) <| WD.nil <| WX.mid () trivial ⟨bF (fun h => by rw [(hE0 h.1).2] at q2; exact q2 rfl), trivial⟩ ⟨rfl, trivial⟩ (fun _ h => Sb.own (by repeat' (first | with_reducible exact Sb.all | exact Sb.nil | (apply Sb.cons; focus (first | ((repeat (first | with_reducible exact Tk.here | with_reducible apply Tk.there)); done) | ((repeat (first | exact Tk.here | apply Tk.there)); done))) | apply Sb.drop)) h)
    exact WC.ret <| WX.ret2c rfl ag57 sz57 (⟨kind, ⟨f, n, qk, qn⟩, qb, decide (st = some [] ∧ (kind = 1 ∨ kind = 2))⟩) (rc_ok hrd hk htl hi) rfl rfl (by decide) rfl (fun _ h => Sb.own (by repeat' (first | with_reducible exact Sb.all | exact Sb.nil | (apply Sb.cons; focus (first | ((repeat (first | with_reducible exact Tk.here | with_reducible apply Tk.there)); done) | ((repeat (first | exact Tk.here | apply Tk.there)); done))) | apply Sb.drop)) h)
def recC (kind : Int) (k : PK) (b : List UInt8) : List UInt8 := if kind = 1 then num kind ++ text k.flow.data.toList ++ num k.num ++ num k.kind ++ num k.n ++ text b else num kind ++ text k.flow.data.toList ++ num k.num
theorem rnumB {w0 : World} {A : List HProp} {x : Int} (hx : -9223372036854775808 ≤ x ∧ x ≤ 9223372036854775807) :
    Fun Tryz.prog w0 78 [.int .i64 x] A (Ret w0 (fun i : Option Addr × Nat => (num x).length ≤ i.2) (fun i => .slice i.1 (num x).length i.2) (fun i => row i.1 i.2 1 5 (u8s (num x)) :: A)) := ref_num hx
theorem rtextB {w0 : World} {A : List HProp} {s : ByteArray} (l : List UInt8) (hl : s.data.toList = l) (hs : s.size ≤ 140737488351232) :
    Fun Tryz.prog w0 79 [.string s] A (Ret w0 (fun i : Option Addr × Nat => (text l).length ≤ i.2) (fun i => .slice i.1 (text l).length i.2) (fun i => row i.1 i.2 1 5 (u8s (text l)) :: A)) := by subst hl; exact ref_text hs
theorem ref_bytes {w0 : World} {A : List HProp} {kind n pk pn : Int} {f : ByteArray} {b : Sla UInt8} [hR : Reads w0 A b.base (u8s b.xs)] (hkind : -9223372036854775808 ≤ kind ∧ kind ≤ 9223372036854775807) (hk : PkOk ⟨f, n, pk, pn⟩) (hf : f.size ≤ 1048576) (hb : b.xs.length ≤ 1048576) :
    Fun Tryz.prog w0 49 [.agg (vc6 kind f n pk pn b).toArray] A (Ret w0 (fun i : Option Addr × Nat => (recC kind ⟨f, n, pk, pn⟩ b.xs).length ≤ i.2) (fun i => .slice i.1 (recC kind ⟨f, n, pk, pn⟩ b.xs).length i.2) (fun i => row i.1 i.2 1 5 (u8s (recC kind ⟨f, n, pk, pn⟩ b.xs)) :: A)) := by
  have l0 := num_len hkind
  have l1 := num_len (x := n) hk.num
  have l2 := num_len (x := pk) hk.kind
  have l3 := num_len (x := pn) hk.n
  have hfs : f.data.toList.length = f.size := rfl
  have l4 := text_len f.data.toList (by omega)
  have l5 := text_len b.xs (by omega)
  refine Fun.enter Tryz.func49 rfl Tryz.ntmps49 rfl ?_
  refine WC.seq <| WC.region <| bxc (v := .agg _) (cs := [.int _ _, .string _, .int _ _, .int _ _, .int _ _, .slice _ _ _]) rfl rfl fun b1 => sv (vaS rfl) <| WL.nil <| WX.thenN <| WC.seq <| WC.region <| sv (vfldpz fl57f0 rfl) <| sv (vldc pl3 rfl) <| clx (by repeat' (first | with_reducible exact Sb.all | exact Sb.nil | (apply Sb.cons; focus (first | ((repeat (first | with_reducible exact Tk.here | with_reducible apply Tk.there)); done) | ((repeat (first | exact Tk.here | apply Tk.there)); done))) | apply Sb.drop)) (rnumB hkind) ct78 rfl fun r3 hr3 => ?_
  refine sv (vaS rfl) <| WL.nil <| WX.thenN <| WC.seq <| WC.region <| sv (vmS rfl) <| sv (vfldp fl57f1 rfl) <| sv (vldc pl9 rfl) <| clx (by repeat' (first | with_reducible exact Sb.all | exact Sb.nil | (apply Sb.cons; focus (first | ((repeat (first | with_reducible exact Tk.here | with_reducible apply Tk.there)); done) | ((repeat (first | exact Tk.here | apply Tk.there)); done))) | apply Sb.drop)) (rtextB f.data.toList rfl (by omega)) ct79 rfl fun r5 hr5 => ?_
  refine pm (fun _ h => (show Own w0 (row r3.1 r3.2 1 5 (u8s (num kind)) :: row r5.1 r5.2 1 5 (u8s (text f.data.toList)) :: cel b1 (vc6 kind f n pk pn b) 57 :: A) _ from Sb.own (by repeat' (first | with_reducible exact Sb.all | exact Sb.nil | (apply Sb.cons; focus (first | ((repeat (first | with_reducible exact Tk.here | with_reducible apply Tk.there)); done) | ((repeat (first | exact Tk.here | apply Tk.there)); done))) | apply Sb.drop)) h)) <| apb Tryz.underlying23 zt5 rfl rfl (by first | rfl | simp only [List.length_append]) rfl (RdC.of_row (c := r5.2) (s := 1) (e := 5) (vs := u8s (text f.data.toList)) (by simp)) (by first | omega | (simp only [List.length_append]; omega)) fun base6 c6 hc6 =>sv (vaS rfl) <| WL.nil <| WX.thenN <| WC.seq <| WC.region <| sv (vmS rfl) <| sv (vfldp fl57f2 rfl) <| sv (vldc pl3 rfl) <| clx (by repeat' (first | with_reducible exact Sb.all | exact Sb.nil | (apply Sb.cons; focus (first | ((repeat (first | with_reducible exact Tk.here | with_reducible apply Tk.there)); done) | ((repeat (first | exact Tk.here | apply Tk.there)); done))) | apply Sb.drop)) (rnumB (x := n) hk.num) ct78 rfl fun r8 hr8 => ?_
  refine pm (fun _ h => (show Own w0 (row base6 c6 1 5 (u8s (num kind ++ text f.data.toList)) :: row r8.1 r8.2 1 5 (u8s (num n)) :: cel b1 (vc6 kind f n pk pn b) 57 :: A) _ from Sb.own (by repeat' (first | with_reducible exact Sb.all | exact Sb.nil | (apply Sb.cons; focus (first | ((repeat (first | with_reducible exact Tk.here | with_reducible apply Tk.there)); done) | ((repeat (first | exact Tk.here | apply Tk.there)); done))) | apply Sb.drop)) h)) <| apb Tryz.underlying23 zt5 rfl rfl (by first | rfl | simp only [List.length_append]) rfl (RdC.of_row (c := r8.2) (s := 1) (e := 5) (vs := u8s (num n)) (by simp)) (by first | omega | (simp only [List.length_append]; omega)) fun base9 c9 hc9 =>sv (vaS rfl) <| WL.nil <| WX.thenN <| ?_
  refine WC.cutv (ι := Option Addr × Nat) (fun q => [(3, .slice q.1 (recC kind ⟨f, n, pk, pn⟩ b.xs).length q.2)]) [] (fun q => row q.1 q.2 1 5 (u8s (recC kind ⟨f, n, pk, pn⟩ b.xs)) :: A) (fun q => (recC kind ⟨f, n, pk, pn⟩ b.xs).length ≤ q.2) trivial ?_ ?_
  · -- up to the join
    refine WC.seq <| WC.region <| sv (vfldpz fl57f0 rfl) <| sv (vldc pl3 rfl) <| sv (veq rfl rfl) <| WL.nil <| WX.thenN <| ?_
    refine WC.ite rfl (fun h1 => ?_) (fun h1 => ?_)
    · -- then
      have hrec : recC kind ⟨f, n, pk, pn⟩ b.xs = num kind ++ text f.data.toList ++ num n ++ num pk ++ num pn ++ text b.xs := if_pos h1
      rw [hrec]
      refine WC.seq <| WC.region <| sv (vmS rfl) <| sv (vfldp fl57f3 rfl) <| sv (vfldpz fl46f0 rfl) <| sv (vldc pl3 rfl) <| clx (by repeat' (first | with_reducible exact Sb.all | exact Sb.nil | (apply Sb.cons; focus (first | ((repeat (first | with_reducible exact Tk.here | with_reducible apply Tk.there)); done) | ((repeat (first | exact Tk.here | apply Tk.there)); done))) | apply Sb.drop)) (rnumB (x := pk) hk.kind) ct78 rfl fun r12 hr12 => ?_
      refine pm (fun _ h => (show Own w0 (row base9 c9 1 5 (u8s (num kind ++ text f.data.toList ++ num n)) :: row r12.1 r12.2 1 5 (u8s (num pk)) :: cel b1 (vc6 kind f n pk pn b) 57 :: A) _ from Sb.own (by repeat' (first | with_reducible exact Sb.all | exact Sb.nil | (apply Sb.cons; focus (first | ((repeat (first | with_reducible exact Tk.here | with_reducible apply Tk.there)); done) | ((repeat (first | exact Tk.here | apply Tk.there)); done))) | apply Sb.drop)) h)) <| apb Tryz.underlying23 zt5 rfl rfl (by first | rfl | simp only [List.length_append]) rfl (RdC.of_row (c := r12.2) (s := 1) (e := 5) (vs := u8s (num pk)) (by simp)) (by first | omega | (simp only [List.length_append]; omega)) fun base13 c13 hc13 =>sv (vaS rfl) <| WL.nil <| WX.thenN <| WC.seq <| WC.region <| sv (vmS rfl) <| sv (vfldp fl57f3 rfl) <| sv (vfldp fl46f1 rfl) <| sv (vldc pl3 rfl) <| clx (by repeat' (first | with_reducible exact Sb.all | exact Sb.nil | (apply Sb.cons; focus (first | ((repeat (first | with_reducible exact Tk.here | with_reducible apply Tk.there)); done) | ((repeat (first | exact Tk.here | apply Tk.there)); done))) | apply Sb.drop)) (rnumB (x := pn) hk.n) ct78 rfl fun r15 hr15 => ?_
      refine pm (fun _ h => (show Own w0 (row base13 c13 1 5 (u8s (num kind ++ text f.data.toList ++ num n ++ num pk)) :: row r15.1 r15.2 1 5 (u8s (num pn)) :: cel b1 (vc6 kind f n pk pn b) 57 :: A) _ from Sb.own (by repeat' (first | with_reducible exact Sb.all | exact Sb.nil | (apply Sb.cons; focus (first | ((repeat (first | with_reducible exact Tk.here | with_reducible apply Tk.there)); done) | ((repeat (first | exact Tk.here | apply Tk.there)); done))) | apply Sb.drop)) h)) <| apb Tryz.underlying23 zt5 rfl rfl (by first | rfl | simp only [List.length_append]) rfl (RdC.of_row (c := r15.2) (s := 1) (e := 5) (vs := u8s (num pn)) (by simp)) (by first | omega | (simp only [List.length_append]; omega)) fun base16 c16 hc16 =>sv (vaS rfl) <| WL.nil <| WX.thenN <| WC.region <| sv (vmS rfl) <| sv (vfldp fl57f4 rfl) <| sv (vldc pl23 rfl) <| sv (vstr (bs := b.xs) Tryz.underlying23 Tryz.underlying5 Tryz.underlying9 rfl (hR.rd.mono fun _ h => Sb.own (by repeat' (first | with_reducible exact Sb.all | exact Sb.nil | (apply Sb.cons; focus (first | ((repeat (first | with_reducible exact Tk.here | with_reducible apply Tk.there)); done) | ((repeat (first | exact Tk.here | apply Tk.there)); done))) | apply Sb.drop)) h) rfl) <| clx (by repeat' (first | with_reducible exact Sb.all | exact Sb.nil | (apply Sb.cons; focus (first | ((repeat (first | with_reducible exact Tk.here | with_reducible apply Tk.there)); done) | ((repeat (first | exact Tk.here | apply Tk.there)); done))) | apply Sb.drop)) (rtextB (s := ⟨b.xs.toArray⟩) b.xs (by simp) (show b.xs.length ≤ _ by omega)) ct79 rfl fun r19 hr19 => ?_
      exact pm (fun _ h => (show Own w0 (row base16 c16 1 5 (u8s (num kind ++ text f.data.toList ++ num n ++ num pk ++ num pn)) :: row r19.1 r19.2 1 5 (u8s (text b.xs)) :: cel b1 (vc6 kind f n pk pn b) 57 :: A) _ from Sb.own (by repeat' (first | with_reducible exact Sb.all | exact Sb.nil | (apply Sb.cons; focus (first | ((repeat (first | with_reducible exact Tk.here | with_reducible apply Tk.there)); done) | ((repeat (first | exact Tk.here | apply Tk.there)); done))) | apply Sb.drop)) h)) <| apb Tryz.underlying23 zt5 rfl rfl (by first | rfl | simp only [List.length_append]) rfl (RdC.of_row (c := r19.2) (s := 1) (e := 5) (vs := u8s (text b.xs)) (by simp)) (by first | omega | (simp only [List.length_append]; omega)) fun base20 c20 hc20 =>sv (vaS rfl) <| WL.nil <| WX.mid ((base20, c20)) (by simp only [List.length_append] at hc20 ⊢; omega) ⟨(show Value.slice base20 ((num kind).length + (text f.data.toList).length + (num n).length + (num pk).length + (num pn).length + (text b.xs).length) c20 = _ from by simp only [List.length_append]), trivial⟩ trivial (fun _ h => Sb.own (by repeat' (first | with_reducible exact Sb.all | exact Sb.nil | (apply Sb.cons; focus (first | ((repeat (first | with_reducible exact Tk.here | with_reducible apply Tk.there)); done) | ((repeat (first | exact Tk.here | apply Tk.there)); done))) | apply Sb.drop)) h)
    · -- else
      have hrec : recC kind ⟨f, n, pk, pn⟩ b.xs = num kind ++ text f.data.toList ++ num n := if_neg h1
      rw [hrec]
      exact WC.skip <| WX.mid ((base9, c9)) (by simp only [List.length_append] at hc9 ⊢; omega) ⟨(show Value.slice base9 ((num kind).length + (text f.data.toList).length + (num n).length) c9 = _ from by simp only [List.length_append]), trivial⟩ trivial (fun _ h => Sb.own (by repeat' (first | with_reducible exact Sb.all | exact Sb.nil | (apply Sb.cons; focus (first | ((repeat (first | with_reducible exact Tk.here | with_reducible apply Tk.there)); done) | ((repeat (first | exact Tk.here | apply Tk.there)); done))) | apply Sb.drop)) h)
  · -- behind the join
    intro q hq ρh
    exact WC.seq <| WC.region <| sv (vmS rfl) <| sv (vaS rfl) <| WL.nil <| WX.thenN <| WC.ret <| WX.ret1 rfl (q) (hq) rfl (fun _ h => Sb.own (by repeat' (first | with_reducible exact Sb.all | exact Sb.nil | (apply Sb.cons; focus (first | ((repeat (first | with_reducible exact Tk.here | with_reducible apply Tk.there)); done) | ((repeat (first | exact Tk.here | apply Tk.there)); done))) | apply Sb.drop)) h)
end Go.Proofs.YthljpljbpbkkcaaGreatDoor
end
section
set_option linter.unusedVariables false
set_option linter.unusedSimpArgs false
set_option maxRecDepth 4000
namespace Go.Proofs.YthljpljbpbkkcaaGreatDoor
open Go.Sl Go.RowKit Go.Pack Go.Vault Go.Journal

def floorR (l : List (ByteArray × Int)) (f : ByteArray) : Int := l.foldl (fun n x => if x.1 = f then x.2 else n) 0
theorem floorR_snoc {l : List (ByteArray × Int)} {x : ByteArray × Int} {f : ByteArray} : floorR (l ++ [x]) f = if x.1 = f then x.2 else floorR l f := by
  unfold floorR; rw [List.foldl_append]; rfl
abbrev callC (x : PK × Sla UInt8) : List Value := vc6 1 x.1.flow x.1.num x.1.kind x.1.n x.2
abbrev flC (x : ByteArray × Int) : List Value := vc6 2 x.1 x.2 0 0 ⟨none, [], 0⟩
theorem callC_len (x : PK × Sla UInt8) : (callC x).length = 6 := rfl
theorem flC_len (x : ByteArray × Int) : (flC x).length = 6 := rfl
structure RVI where
  l : List (PK × Sla UInt8)
  fl : List (ByteArray × Int)
  lb : Option Addr
  lc : Nat
  fb : Option Addr
  fc : Nat
/-- the document's list is what is there -/
structure RVR (N : Nat) (d : VD) (i : RVI) : Prop where
  nd : (i.l.map Prod.fst).Nodup
  look : ∀ k, lookP i.l k = d.parts k
  ok : ∀ x ∈ i.l, PkOk x.1 ∧ (x.2.xs.length ≤ x.2.cap ∧ x.2.xs.length ≤ 1048576)
  floor : ∀ f, floorR i.fl f = d.floors f
  len : i.l.length ≤ N ∧ i.fl.length ≤ N
  fok : ∀ x ∈ i.fl, x.1.size ≤ 140737488351232
abbrev rvc (i : RVI) (w : Nat) : List Value := [.slice i.lb i.l.length i.lc, .slice i.fb i.fl.length i.fc, .pointer (some ⟨w, 0, none⟩)]
def rv (r w N : Nat) (d : VD) : HProp := fun h => ∃ i : RVI, RVR N d i ∧ star (cel r (rvc i w) 53) (star (row i.lb i.lc 6 57 (fla callC i.l)) (star (row i.fb i.fc 6 57 (fla flC i.fl)) (rows 5 (i.l.map Prod.snd)))) h
theorem rv_open {w0 ww : World} {A : List HProp} {r w N : Nat} {d : VD} (H : Own w0 (rv r w N d :: A) ww) :
    ∃ i : RVI, RVR N d i ∧ Own w0 (cel r (rvc i w) 53 :: row i.lb i.lc 6 57 (fla callC i.l) :: row i.fb i.fc 6 57 (fla flC i.fl) :: rows 5 (i.l.map Prod.snd) :: A) ww := by
  obtain ⟨hb, h, ⟨h1, h2, ⟨i, hi, a⟩, a2, dd, y⟩, hw⟩ := H
  have h3 : Own w0 (star (cel r (rvc i w) 53) (star (row i.lb i.lc 6 57 (fla callC i.l)) (star (row i.fb i.fc 6 57 (fla flC i.fl)) (rows 5 (i.l.map Prod.snd)))) :: A) ww := ⟨hb, h, ⟨h1, h2, a, a2, dd, y⟩, hw⟩
  have h4 := h3.star.pk1.star.pk1.star
  exact ⟨i, hi, h4.ix [3, 2, 0, 1]⟩
theorem rv_mk {w0 ww : World} {A : List HProp} {r w N : Nat} {d : VD} {i : RVI} (hi : RVR N d i) (H : Own w0 (cel r (rvc i w) 53 :: row i.lb i.lc 6 57 (fla callC i.l) :: row i.fb i.fc 6 57 (fla flC i.fl) :: rows 5 (i.l.map Prod.snd) :: A) ww) : Own w0 (rv r w N d :: A) ww := by
  have h1 := (H.ix [2, 3, 0, 1]).intro_star
  have h2 := (h1.ix [2, 0, 1]).intro_star
  have h3 := (h2.ix [1, 0]).intro_star
  exact h3.head fun _ h => ⟨i, hi, h⟩
theorem RVR.vrep {N : Nat} {d : VD} {i : RVI} (h : RVR N d i) : VRep ⟨d.parts, fun _ => 0⟩ ⟨0, 0, i.l, []⟩ := ⟨h.nd, h.look, h.ok, List.nodup_nil, fun _ => rfl⟩
theorem RVR.new {N : Nat} : RVR N VD.new ⟨[], [], none, 0, none, 0⟩ := ⟨List.nodup_nil, fun _ => rfl, fun x hx => (by cases hx), fun _ => rfl, ⟨Nat.zero_le _, Nat.zero_le _⟩, fun x hx => (by cases hx)⟩
theorem RVR.put {N : Nat} {d : VD} {l : List (PK × Sla UInt8)} {fl : List (ByteArray × Int)} {lb lb' fb : Option Addr} {lc lc' fc : Nat} {k : PK} {s : Sla UInt8} (h : RVR N d ⟨l, fl, lb, lc, fb, fc⟩) (hk : PkOk k) (hn : d.parts k = none) (hc : s.xs.length ≤ s.cap ∧ s.xs.length ≤ 1048576) : RVR (N + 1) (putD d k s.xs) ⟨l ++ [(k, s)], fl, lb', lc', fb, fc⟩ := by
  have h1 := h.vrep.put hk hn hc
  have := h.len
  exact ⟨h1.nd, h1.look, h1.ok, h.floor, ⟨by dsimp only at this ⊢; rw [List.length_append]; exact Nat.add_le_add_right this.1 1, Nat.le_succ_of_le this.2⟩, h.fok⟩
theorem RVR.mono {N M : Nat} {d : VD} {i : RVI} (h : RVR N d i) (hM : N ≤ M) : RVR M d i := ⟨h.nd, h.look, h.ok, h.floor, ⟨Nat.le_trans h.len.1 hM, Nat.le_trans h.len.2 hM⟩, h.fok⟩
theorem rv_mono {w0 ww : World} {A : List HProp} {r w N M : Nat} {d : VD} (hM : N ≤ M) (H : Own w0 (rv r w N d :: A) ww) : Own w0 (rv r w M d :: A) ww := H.head fun _ ⟨i, hi, h⟩ => ⟨i, hi.mono hM, h⟩
/-- what stays of a drop -/
def stayB (f : ByteArray) (n : Int) (x : PK × Sla UInt8) : Bool := decide (x.1.flow ≠ f ∨ n ≤ x.1.num)
theorem lookP_stay {f : ByteArray} {n : Int} : ∀ {l : List (PK × Sla UInt8)} {k : PK}, lookP (l.filter (stayB f n)) k = if k.flow = f ∧ k.num < n then none else lookP l k
  | [], k => by split <;> rfl
  | x :: l, k => by
    have ih := lookP_stay (f := f) (n := n) (l := l) (k := k)
    by_cases hs : stayB f n x = true
    · rw [List.filter_cons_of_pos hs]
      have hs' := of_decide_eq_true hs
      show (if x.1 = k then some x.2.xs else lookP (l.filter (stayB f n)) k) = if _ then none else if x.1 = k then some x.2.xs else lookP l k
      by_cases e : x.1 = k
      · subst e
        rw [if_pos rfl, if_pos rfl, if_neg (fun h => by rcases hs' with h2 | h2; exact h2 h.1; omega)]
      · rw [if_neg e, if_neg e, ih]
    · rw [List.filter_cons_of_neg hs, ih]
      have hs' : x.1.flow = f ∧ x.1.num < n := by
        have := fun h => hs (decide_eq_true h)
        exact ⟨Decidable.not_not.1 fun h => this (.inl h), by have : ¬ n ≤ x.1.num := fun h => this (.inr h); omega⟩
      show _ = if _ then none else if x.1 = k then some x.2.xs else lookP l k
      by_cases e : x.1 = k
      · subst e; rw [if_pos hs', if_pos hs']
      · rw [if_neg e]
theorem RVR.drop {N : Nat} {d : VD} {l : List (PK × Sla UInt8)} {fl : List (ByteArray × Int)} {lb lb' fb fb' : Option Addr} {lc lc' fc fc' : Nat} {f : ByteArray} {n : Int} (h : RVR N d ⟨l, fl, lb, lc, fb, fc⟩) (hf : f.size ≤ 140737488351232) : RVR (N + 1) (dropD d f n) ⟨l.filter (stayB f n), fl ++ [(f, n)], lb', lc', fb', fc'⟩ := by
  have hl := h.len
  refine ⟨?_, fun k => ?_, fun x hx => h.ok x (List.mem_filter.1 hx).1, fun g => ?_, ⟨?_, ?_⟩, fun x hx => (List.mem_append.1 hx).elim (h.fok x) (fun hx => by rw [List.mem_singleton.1 hx]; exact hf)⟩
  · exact (h.nd).sublist (List.filter_sublist.map _)
  · rw [lookP_stay]; have := h.look k; dsimp only at this; rw [this]; rfl
  · dsimp only; rw [floorR_snoc]
    have := h.floor g; dsimp only at this
    rw [this]
    show (if f = g then n else d.floors g) = if g = f then n else d.floors g
    by_cases e : f = g
    · rw [if_pos e, if_pos e.symm]
    · rw [if_neg e, if_neg (fun x => e x.symm)]
  · exact Nat.le_succ_of_le (Nat.le_trans (List.length_filter_le _ _) hl.1)
  · dsimp only; rw [List.length_append]; exact Nat.add_le_add_right hl.2 1
theorem rows_filter {w0 w : World} {e : TypeId} {p : PK × Sla UInt8 → Bool} : ∀ {l : List (PK × Sla UInt8)} {A : List HProp}, Own w0 (rows e (l.map Prod.snd) :: A) w → Own w0 (rows e ((l.filter p).map Prod.snd) :: A) w
  | [], A, h => h
  | x :: l, A, h => by
    have h1 := h.star
    by_cases hp : p x = true
    · rw [List.filter_cons_of_pos hp]
      have h2 := rows_filter (p := p) h1.pk1
      exact h2.pk1.intro_star
    · rw [List.filter_cons_of_neg hp]
      exact rows_filter h1.tail
theorem fla6 {α : Type} {f : α → List Value} {l : List α} {i : Nat} {a : α} (hs : ∀ x, (f x).length = 6) (h : l[i]? = some a) (k : Nat) (hk : k < 6) : (fla f l)[((i : Int)).toNat * 6 + k]? = (f a)[k]? := by rw [Int.toNat_natCast]; exact fla_at hs h hk
theorem fla6d {α : Type} {f : α → List Value} {l : List α} {i : Nat} {a : α} (hs : ∀ x, (f x).length = 6) (h : l[i]? = some a) : ((fla f l).drop (((i : Int)).toNat * 6)).take 6 = f a := by rw [Int.toNat_natCast]; exact fla_of hs h
theorem fla_part {l : List (PK × Sla UInt8)} {i : Nat} {a : PK × Sla UInt8} (h : l[i]? = some a) : ((fla callC l).drop (((i : Int)).toNat * 6 + 3)).take 2 = [.int .i64 a.1.kind, .int .i64 a.1.n] := by
  have h1 := fla6d callC_len h
  have h2 : ((fla callC l).drop (((i : Int)).toNat * 6 + 3)).take 2 = ((((fla callC l).drop (((i : Int)).toNat * 6)).take 6).drop 3).take 2 := by
    rw [List.drop_take, List.take_take, List.drop_drop]; rfl
  rw [h2, h1]; rfl
theorem floorR_take {l : List (ByteArray × Int)} {i : Nat} {x : ByteArray × Int} {f : ByteArray} (h : l[i]? = some x) : floorR (l.take (i + 1)) f = if x.1 = f then x.2 else floorR (l.take i) f := by
  rw [List.take_add_one, h]; exact floorR_snoc
theorem ref_floor {w0 : World} {A : List HProp} {r w lc fc : Nat} {ll : Nat} {lb fb : Option Addr} {fl : List (ByteArray × Int)} {f : ByteArray} (hl : fl.length ≤ 1099511627776) [hc : CelAt A r [.slice lb ll lc, .slice fb fl.length fc, .pointer (some ⟨w, 0, none⟩)] 53] [hR : Reads w0 A fb (fla flC fl)] :
    Fun Tryz.prog w0 46 [.pointer (some ⟨r, 0, none⟩), .string f] A (Ret w0 (fun _ : Unit => True) (fun _ => .int .i64 (floorR fl f)) (fun _ => A)) := by
  have hfl := fla_length (f := flC) (l := fl) flC_len
  refine Fun.enter Tryz.func46 rfl Tryz.ntmps46 rfl ?_
  refine WC.seq <| WC.region <| sv (vaI rfl) <| WL.nil <| WX.thenN <| WC.seq <| WC.region <| sv (vaI rfl) <| WL.nil <| WX.thenN <| WC.seq <| WC.seq <| WC.region <| sv (vaI rfl) <| WL.nil <| WX.thenN <| WC.block <| ?_
  refine WC.loopS (ι := Nat) (fun i => [(5, .int .i64 (floorR (fl.take i) f)), (6, .int .i64 i)]) [(0, .pointer _), (1, .string _)] (fun i => i ≤ fl.length) (fun i => fl.length - i) (0) (by omega) ⟨rfl, rfl, trivial⟩ ⟨rfl, rfl, trivial⟩ ?_
  intro i hi ρh
  refine WC.seq <| WC.seq <| WC.region <| sv (vmI rfl) <| sv (vmP rfl) <| sv (vnil rfl) <| sv (vfldp fl53f1 rfl) <| sv (vldc pl50 rfl) <| sv (vlen Tryz.underlying50 rfl) <| sv (vlt rfl rfl) <| WL.nil <| WX.thenN <| ?_
  refine WC.ite rfl (fun h1 => ?_) (fun h1 => ?_)
  · -- then
    have hil : i < fl.length := by omega
    obtain ⟨a, ha⟩ : ∃ a, fl[i]? = some a := ⟨_, List.getElem?_eq_getElem hil⟩
    have hpos : 0 < (fla flC fl).length := by omega
    refine WC.known (fun w h => rsomeV hpos hR.rd h) fun hb => ?_
    have hf1 := fla6 flC_len ha 1 (by omega)
    have hf2 := fla6 flC_len ha 2 (by omega)
    have hfr := floorR_take (f := f) ha
    refine WC.skip <| WX.thenN <| WC.seq <| WC.block <| WC.seq <| WC.region <| sv (vmP rfl) <| sv (vnil rfl) <| sv (vfldp fl53f1 rfl) <| sv (vldc pl50 rfl) <| sv (vmI rfl) <| sv (vix Tryz.underlying50 sz57 rfl rfl (by omega) (by omega) reads (hpos)) <| sv (vfldr (hb) fl57f1 rfl) <| sv (vldo pl9 rfl reads (hf1)) <| sv (vmT rfl) <| sv (veqs rfl rfl) <| WL.nil <| WX.thenN <| ?_
    refine WC.ite rfl (fun h2 => ?_) (fun h2 => ?_)
    · -- then
      exact WC.region <| sv (vmP rfl) <| sv (vnil rfl) <| sv (vfldp fl53f1 rfl) <| sv (vldc pl50 rfl) <| sv (vmI rfl) <| sv (vix Tryz.underlying50 sz57 rfl rfl (by omega) (by omega) reads (hpos)) <| sv (vfldr (hb) fl57f2 rfl) <| sv (vldo pl3 rfl reads (hf2)) <| sv (vaI rfl) <| WL.nil <| WX.blockN <| WX.thenN <| WC.region <| sv (vmI rfl) <| sv (vadd rfl rfl (by omega)) <| sv (vaI rfl) <| WL.nil <| WX.again (i + 1) (by omega) (by omega) ⟨(show Value.int .i64 a.2 = .int .i64 (floorR (fl.take (i + 1)) f) from by rw [hfr, if_pos h2]), rfl, trivial⟩ ⟨rfl, rfl, trivial⟩ (fun _ h => Sb.own (by repeat' (first | with_reducible exact Sb.all | exact Sb.nil | (apply Sb.cons; focus (first | ((repeat (first | with_reducible exact Tk.here | with_reducible apply Tk.there)); done) | ((repeat (first | exact Tk.here | apply Tk.there)); done))) | apply Sb.drop)) h)
    · -- else
      exact WC.skip <| WX.blockN <| WX.thenN <| WC.region <| sv (vmI rfl) <| sv (vadd rfl rfl (by omega)) <| sv (vaI rfl) <| WL.nil <| WX.again (i + 1) (by omega) (by omega) ⟨(show Value.int .i64 (floorR (fl.take i) f) = .int .i64 (floorR (fl.take (i + 1)) f) from by rw [hfr, if_neg h2]), rfl, trivial⟩ ⟨rfl, rfl, trivial⟩ (fun _ h => Sb.own (by repeat' (first | with_reducible exact Sb.all | exact Sb.nil | (apply Sb.cons; focus (first | ((repeat (first | with_reducible exact Tk.here | with_reducible apply Tk.there)); done) | ((repeat (first | exact Tk.here | apply Tk.there)); done))) | apply Sb.drop)) h)
  · -- else
    exact WC.exit <| WX.thenE <| WX.thenE <| WX.blockH <| WX.thenN <| WC.seq <| WC.region <| sv (vmI rfl) <| sv (vaI rfl) <| WL.nil <| WX.thenN <| WC.ret <| WX.ret1 rfl (()) (trivial) (show Value.int .i64 (floorR (fl.take i) f) = .int .i64 (floorR fl f) from by rw [List.take_of_length_le (by omega)]) (fun _ h => Sb.own (by repeat' (first | with_reducible exact Sb.all | exact Sb.nil | (apply Sb.cons; focus (first | ((repeat (first | with_reducible exact Tk.here | with_reducible apply Tk.there)); done) | ((repeat (first | exact Tk.here | apply Tk.there)); done))) | apply Sb.drop)) h)
/-- where a part stands -/
def FindR (l : List (PK × Sla UInt8)) (k : PK) (v : Int) : Prop := (v = -1 ∧ lookP l k = none) ∨ ∃ (j : Nat) (x : PK × Sla UInt8), v = (j : Int) ∧ l[j]? = some x ∧ x.1 = k
theorem FindR.neg {l : List (PK × Sla UInt8)} (hn : (l.map Prod.fst).Nodup) {k : PK} {v : Int} (h : FindR l k v) : v < 0 ↔ lookP l k = none := by
  rcases h with ⟨rfl, h⟩ | ⟨j, x, rfl, hj, rfl⟩
  · exact ⟨fun _ => h, fun _ => by decide⟩
  · rw [lookP_mem hn (List.mem_of_getElem? hj)]
    exact ⟨fun h => by omega, fun h => by cases h⟩
theorem ref_find16 {w0 : World} {A : List HProp} {r w lc fc : Nat} {ff : Nat} {lb fb : Option Addr} {l : List (PK × Sla UInt8)} {f : ByteArray} {n pk pn : Int} (hl : l.length ≤ 1099511627776) [hc : CelAt A r [.slice lb l.length lc, .slice fb ff fc, .pointer (some ⟨w, 0, none⟩)] 53] [hR : Reads w0 A lb (fla callC l)] :
    Fun Tryz.prog w0 47 [.pointer (some ⟨r, 0, none⟩), .string f, .int .i64 n, .agg #[.int .i64 pk, .int .i64 pn]] A (Ret w0 (fun v : Int => FindR l ⟨f, n, pk, pn⟩ v) (fun v => .int .i64 v) (fun _ => A)) := by
  have hfl := fla_length (f := callC) (l := l) callC_len
  refine Fun.enter Tryz.func47 rfl Tryz.ntmps47 rfl ?_
  refine WC.seq <| WC.region <| bxc (v := .agg _) (cs := [.int _ _, .int _ _]) rfl rfl fun b1 => sv (vaI rfl) <| WL.nil <| WX.thenN <| WC.seq <| WC.seq <| WC.region <| sv (vaI rfl) <| WL.nil <| WX.thenN <| WC.block <| ?_
  refine WC.loopS (ι := Nat) (fun i => [(9, .int .i64 i)]) [(0, .pointer _), (1, .string _), (2, .int _ _), (7, _)] (fun i => i ≤ l.length ∧ ∀ x ∈ l.take i, x.1 ≠ ⟨f, n, pk, pn⟩) (fun i => l.length - i) (0) (⟨Nat.zero_le _, fun x h => by rw [List.take_zero] at h; cases h⟩) ⟨rfl, trivial⟩ ⟨rfl, rfl, rfl, rfl, trivial⟩ ?_
  intro i hi ρh
  refine WC.seq <| WC.seq <| WC.region <| sv (vmI rfl) <| sv (vmP rfl) <| sv (vnil rfl) <| sv (vfldpz fl53f0 rfl) <| sv (vldc pl50 rfl) <| sv (vlen Tryz.underlying50 rfl) <| sv (vlt rfl rfl) <| WL.nil <| WX.thenN <| ?_
  refine WC.ite rfl (fun h1 => ?_) (fun h1 => ?_)
  · -- then
    have hil : i < l.length := by omega
    obtain ⟨a, ha⟩ : ∃ a, l[i]? = some a := ⟨_, List.getElem?_eq_getElem hil⟩
    have hpos : 0 < (fla callC l).length := by omega
    refine WC.known (fun w h => rsomeV hpos hR.rd.cons h) fun hb => ?_
    have hf1 := fla6 callC_len ha 1 (by omega)
    have hf2 := fla6 callC_len ha 2 (by omega)
    have hag := fla_part ha
    have hak : a.1 = ⟨f, n, pk, pn⟩ ↔ a.1.flow = f ∧ a.1.num = n ∧ a.1.kind = pk ∧ a.1.n = pn := by
      obtain ⟨⟨q1, q2, q3, q4⟩, q5⟩ := a
      simp
    refine WC.skip <| WX.thenN <| WC.seq <| WC.block <| ?_
    refine WC.cutS [(52, .bool (decide (a.1 = ⟨f, n, pk, pn⟩)))] [(0, .pointer _), (1, .string _), (2, .int _ _), (7, _), (9, .int _ _)] ⟨rfl, rfl, rfl, rfl, rfl, trivial⟩ ?_ fun ρh => ?_
    · -- ref.go:77
      refine WC.draws rfl (by kernel_rfl) <| qv (vmP rfl) <| qv (vnil rfl) <| qv (vfldpz fl53f0 rfl) <| qv (vldc pl50 rfl) <| qv (vmI rfl) <| qv (vix Tryz.underlying50 sz57 rfl rfl (by omega) (by omega) reads (hpos)) <| qv (vfldr (hb) fl57f1 rfl) <| qv (vldo pl9 rfl reads (hf1)) <| qv (vmT rfl) <| qvs (veqs rfl rfl) (fun q1 => ?_) (fun q1 => ?_)
      ·
        refine qv (vmB rfl) <| qvg rfl (vmP rfl) <| qvg rfl (vnil rfl) <| qvg rfl (vfldpz fl53f0 rfl) <| qvg rfl (vldc pl50 rfl) <| qvg rfl (vmI rfl) <| qvg rfl (vix Tryz.underlying50 sz57 rfl rfl (by omega) (by omega) reads (hpos)) <| qvg rfl (vfldr (hb) fl57f2 rfl) <| qvg rfl (vldo pl3 rfl reads (hf2)) <| qvg rfl (vmI rfl) <| qvsg rfl (veq rfl rfl) (fun q2 => ?_) (fun q2 => ?_)
        ·
          exact qv (vpkt rfl) <| qv (vmB rfl) <| qvg rfl (vmP rfl) <| qvg rfl (vnil rfl) <| qvg rfl (vfldpz fl53f0 rfl) <| qvg rfl (vldc pl50 rfl) <| qvg rfl (vmI rfl) <| qvg rfl (vix Tryz.underlying50 sz57 rfl rfl (by omega) (by omega) reads (hpos)) <| qvg rfl (vfldr (hb) fl57f3 rfl) <| qvg rfl (vlda ag46 sz46 rfl reads (hag) rfl (by decide)) <| qvg rfl (vldac ag46 sz46 rfl rfl (by decide)) <| qvg rfl (veqA eq46 rfl rfl rfl) <| qv (vpkt rfl) <| WQ.nil <| WX.mid () trivial ⟨bB (by rw [hak]; simp [q1, q2]), trivial⟩ ⟨rfl, rfl, rfl, rfl, rfl, trivial⟩ (fun _ h => Sb.own (by repeat' (first | with_reducible exact Sb.all | exact Sb.nil | (apply Sb.cons; focus (first | ((repeat (first | with_reducible exact Tk.here | with_reducible apply Tk.there)); done) | ((repeat (first | exact Tk.here | apply Tk.there)); done))) | apply Sb.drop)) h)
        ·
          exact qv (vpkt rfl) <| qv (vmB rfl) <| qng rfl <| qng rfl <| qng rfl <| qng rfl <| qng rfl <| qng rfl <| qng rfl <| qng rfl <| qng rfl <| qng rfl <| qv (vpkf rfl) <| WQ.nil <| WX.mid () trivial ⟨bF (fun h => q2 (hak.1 h).2.1), trivial⟩ ⟨rfl, rfl, rfl, rfl, rfl, trivial⟩ (fun _ h => Sb.own (by repeat' (first | with_reducible exact Sb.all | exact Sb.nil | (apply Sb.cons; focus (first | ((repeat (first | with_reducible exact Tk.here | with_reducible apply Tk.there)); done) | ((repeat (first | exact Tk.here | apply Tk.there)); done))) | apply Sb.drop)) h)
      ·
        exact qv (vmB rfl) <| qng rfl <| qng rfl <| qng rfl <| qng rfl <| qng rfl <| qng rfl <| qng rfl <| qng rfl <| qng rfl <| qng rfl <| qv (vpkf rfl) <| qv (vmB rfl) <| qng rfl <| qng rfl <| qng rfl <| qng rfl <| qng rfl <| qng rfl <| qng rfl <| qng rfl <| qng rfl <| qng rfl <| qv (vpkf rfl) <| WQ.nil <| WX.mid () trivial ⟨bF (fun h => q1 (hak.1 h).1), trivial⟩ ⟨rfl, rfl, rfl, rfl, rfl, trivial⟩ (fun _ h => Sb.own (by repeat' (first | with_reducible exact Sb.all | exact Sb.nil | (apply Sb.cons; focus (first | ((repeat (first | with_reducible exact Tk.here | with_reducible apply Tk.there)); done) | ((repeat (first | exact Tk.here | apply Tk.there)); done))) | apply Sb.drop)) h)
    refine WC.ite rfl (fun h2 => ?_) (fun h2 => ?_)
    · -- then
      exact WC.seq <| WC.region <| sv (vmI rfl) <| sv (vaI rfl) <| WL.nil <| WX.thenN <| WC.ret <| WX.blockR <| WX.thenR <| WX.thenR <| WX.blockR <| WX.thenR <| WX.ret1 rfl ((i : Int)) (.inr ⟨i, a, rfl, ha, h2⟩) rfl (fun _ h => Sb.own (by repeat' (first | with_reducible exact Sb.all | exact Sb.nil | (apply Sb.cons; focus (first | ((repeat (first | with_reducible exact Tk.here | with_reducible apply Tk.there)); done) | ((repeat (first | exact Tk.here | apply Tk.there)); done))) | apply Sb.drop)) h)
    · -- else
      exact WC.skip <| WX.blockN <| WX.thenN <| WC.region <| sv (vmI rfl) <| sv (vadd rfl rfl (by omega)) <| sv (vaI rfl) <| WL.nil <| WX.again (i + 1) (⟨by omega, fun x hx => by rw [List.take_add_one, ha] at hx; rcases List.mem_append.1 hx with hx | hx; exact hi.2 x hx; have : x = a := (by simpa using hx); rw [this]; exact h2⟩) (by omega) ⟨rfl, trivial⟩ ⟨rfl, rfl, rfl, rfl, trivial⟩ (fun _ h => Sb.own (by repeat' (first | with_reducible exact Sb.all | exact Sb.nil | (apply Sb.cons; focus (first | ((repeat (first | with_reducible exact Tk.here | with_reducible apply Tk.there)); done) | ((repeat (first | exact Tk.here | apply Tk.there)); done))) | apply Sb.drop)) h)
  · -- else
    exact WC.exit <| WX.thenE <| WX.thenE <| WX.blockH <| WX.thenN <| WC.seq <| WC.region <| sv (vaI rfl) <| WL.nil <| WX.thenN <| WC.ret <| WX.ret1 rfl ((-1 : Int)) (.inl ⟨rfl, lookP_none fun x hx => hi.2 x (by rw [List.take_of_length_le (by omega)]; exact hx)⟩) rfl (fun _ h => Sb.own (by repeat' (first | with_reducible exact Sb.all | exact Sb.nil | (apply Sb.cons; focus (first | ((repeat (first | with_reducible exact Tk.here | with_reducible apply Tk.there)); done) | ((repeat (first | exact Tk.here | apply Tk.there)); done))) | apply Sb.drop)) h)
def whyR (d : VD) (kind : Int) (k : PK) : Int × Bool := if kind = 1 then whyPut d k else whyDrop d k.flow k.num
theorem tupR {a b : Int} {p q : Bool} (h : (a, p) = (b, q)) : Value.tuple #[.int .i64 a, .bool p] = .tuple #[.int .i64 b, .bool q] := by cases h; rfl
theorem ref_why {w0 : World} {A : List HProp} {r w N lc fc : Nat} {lb fb : Option Addr} {l : List (PK × Sla UInt8)} {fl : List (ByteArray × Int)} {d : VD} {kind n pk pn : Int} {f : ByteArray} {b : Sla UInt8} (hi : RVR N d ⟨l, fl, lb, lc, fb, fc⟩) (hN : N ≤ 1099511627776) (hkind : kind = 1 ∨ kind = 2) (hf : f.size ≤ 140737488351232)
    [hc : CelAt A r [.slice lb l.length lc, .slice fb fl.length fc, .pointer (some ⟨w, 0, none⟩)] 53] [hR1 : Reads w0 A lb (fla callC l)] [hR2 : Reads w0 A fb (fla flC fl)] :
    Fun Tryz.prog w0 18 [.pointer (some ⟨r, 0, none⟩), .agg (vc6 kind f n pk pn b).toArray] A (Ret w0 (fun _ : Unit => True) (fun _ => .tuple #[.int .i64 (whyR d kind ⟨f, n, pk, pn⟩).1, .bool (whyR d kind ⟨f, n, pk, pn⟩).2]) (fun _ => A)) := by
  have hlen := hi.len
  have hfloor := hi.floor f
  dsimp only at hlen hfloor
  have hput : kind = 1 → whyR d kind ⟨f, n, pk, pn⟩ = whyPut d ⟨f, n, pk, pn⟩ := fun h => if_pos h
  have hdrop : kind = 2 → whyR d kind ⟨f, n, pk, pn⟩ = whyDrop d f n := fun h => if_neg (by omega)
  refine Fun.enter Tryz.func18 rfl Tryz.ntmps18 rfl ?_
  refine WC.seq <| WC.region <| bxc (v := .agg _) (cs := [.int _ _, .string _, .int _ _, .int _ _, .int _ _, .slice _ _ _]) rfl rfl fun b1 => sv (vaI rfl) <| sv (vaB rfl) <| WL.nil <| WX.thenN <| WC.seq <| WC.seq <| WC.region <| sv (vfldp fl57f1 rfl) <| sv (vldc pl9 rfl) <| clx (by repeat' (first | with_reducible exact Sb.all | exact Sb.nil | (apply Sb.cons; focus (first | ((repeat (first | with_reducible exact Tk.here | with_reducible apply Tk.there)); done) | ((repeat (first | exact Tk.here | apply Tk.there)); done))) | apply Sb.drop)) (ref5_name hf) ct43 rfl fun r3 hr3 => ?_
  refine sv (vnot rfl) <| WL.nil <| WX.thenN <| ?_
  refine WC.iteb rfl (fun h1 => ?_) (fun h1 => ?_)
  · -- then
    have hnm : ¬ vName f := by simpa using h1
    have e : whyR d kind ⟨f, n, pk, pn⟩ = (51, false) := by rcases hkind with h | h; rw [hput h]; exact if_pos hnm; rw [hdrop h]; exact if_pos hnm
    rw [e]
    exact WC.seq <| WC.region <| sv (vaI rfl) <| sv (vaB rfl) <| WL.nil <| WX.thenN <| WC.ret <| WX.thenR <| WX.ret2 rfl (()) (trivial) rfl (fun _ h => Sb.own (by repeat' (first | with_reducible exact Sb.all | exact Sb.nil | (apply Sb.cons; focus (first | ((repeat (first | with_reducible exact Tk.here | with_reducible apply Tk.there)); done) | ((repeat (first | exact Tk.here | apply Tk.there)); done))) | apply Sb.drop)) h)
  · -- else
    have hnm : vName f := by simpa using h1
    refine WC.skip <| WX.thenN <| WC.seq <| ?_
    refine WC.cutS [(24, .bool (decide (¬ cntP n ∨ (kind = 1 ∧ ¬ mayP pk pn))))] [(0, .pointer _), (3, _)] ⟨rfl, rfl, trivial⟩ ?_ fun ρh => ?_
    · -- ref.go:89
      refine WC.region <| sv (vfldp fl57f2 rfl) <| sv (vldc pl3 rfl) <| clx (by repeat' (first | with_reducible exact Sb.all | exact Sb.nil | (apply Sb.cons; focus (first | ((repeat (first | with_reducible exact Tk.here | with_reducible apply Tk.there)); done) | ((repeat (first | exact Tk.here | apply Tk.there)); done))) | apply Sb.drop)) (ref_number) ct44 rfl fun r5 hr5 => ?_
      refine svb (vnot rfl) (fun q1 => ?_) (fun q1 => ?_)
      ·
        exact sv (vmB rfl) <| sng rfl <| sng rfl <| sng rfl <| sng rfl <| sng rfl <| sng rfl <| sng rfl <| sng rfl <| sng rfl <| sv (vpkt rfl) <| WL.nil <| WX.mid () trivial ⟨bT (.inl (by simpa using q1)), trivial⟩ ⟨rfl, rfl, trivial⟩ (fun _ h => Sb.own (by repeat' (first | with_reducible exact Sb.all | exact Sb.nil | (apply Sb.cons; focus (first | ((repeat (first | with_reducible exact Tk.here | with_reducible apply Tk.there)); done) | ((repeat (first | exact Tk.here | apply Tk.there)); done))) | apply Sb.drop)) h)
      ·
        refine sv (vmB rfl) <| svg rfl (vfldpz fl57f0 rfl) <| svg rfl (vldc pl3 rfl) <| svsg rfl (veq rfl rfl) (fun q2 => ?_) (fun q2 => ?_)
        ·
          refine svg rfl (vmB rfl) <| svg rfl (vfldp fl57f3 rfl) <| svg rfl (vldap (i := 3) (cs := [.int .i64 pk, .int .i64 pn]) ag46 sz46 rfl rfl rfl (by decide)) <| gy rfl <| clx (by repeat' (first | with_reducible exact Sb.all | exact Sb.nil | (apply Sb.cons; focus (first | ((repeat (first | with_reducible exact Tk.here | with_reducible apply Tk.there)); done) | ((repeat (first | exact Tk.here | apply Tk.there)); done))) | apply Sb.drop)) (ref_part) ct45 rfl fun r8 hr8 => ?_
          exact svg rfl (vnot rfl) <| svg rfl (vpkt rfl) <| sv (vpkf rfl) <| WL.nil <| WX.mid () trivial ⟨bB (by have hc : cntP n := by { simpa using q1 }; simp [hc, q2]), trivial⟩ ⟨rfl, rfl, trivial⟩ (fun _ h => Sb.own (by repeat' (first | with_reducible exact Sb.all | exact Sb.nil | (apply Sb.cons; focus (first | ((repeat (first | with_reducible exact Tk.here | with_reducible apply Tk.there)); done) | ((repeat (first | exact Tk.here | apply Tk.there)); done))) | apply Sb.drop)) h)
        ·
          exact svg rfl (vmB rfl) <| sng rfl <| sng rfl <| sng rfl <| sng rfl <| svg rfl (vpkf rfl) <| sv (vpkf rfl) <| WL.nil <| WX.mid () trivial ⟨bF (fun h => by have hc : cntP n := by { simpa using q1 }; rcases h with h | h; exact h hc; exact q2 h.1), trivial⟩ ⟨rfl, rfl, trivial⟩ (fun _ h => Sb.own (by repeat' (first | with_reducible exact Sb.all | exact Sb.nil | (apply Sb.cons; focus (first | ((repeat (first | with_reducible exact Tk.here | with_reducible apply Tk.there)); done) | ((repeat (first | exact Tk.here | apply Tk.there)); done))) | apply Sb.drop)) h)
    refine WC.ite rfl (fun h2 => ?_) (fun h2 => ?_)
    · -- then
      have e : whyR d kind ⟨f, n, pk, pn⟩ = (1, false) := by rcases hkind with h | h; rw [hput h]; unfold whyPut; rw [if_neg (fun x => x hnm), if_pos (fun x => by rcases h2 with h3 | h3; exact h3 x.1; exact h3.2 x.2)]; rw [hdrop h]; unfold whyDrop; rw [if_neg (fun x => x hnm), if_pos (by rcases h2 with h3 | h3; exact h3; omega)]
      rw [e]
      exact WC.seq <| WC.region <| sv (vaI rfl) <| sv (vaB rfl) <| WL.nil <| WX.thenN <| WC.ret <| WX.thenR <| WX.ret2 rfl (()) (trivial) rfl (fun _ h => Sb.own (by repeat' (first | with_reducible exact Sb.all | exact Sb.nil | (apply Sb.cons; focus (first | ((repeat (first | with_reducible exact Tk.here | with_reducible apply Tk.there)); done) | ((repeat (first | exact Tk.here | apply Tk.there)); done))) | apply Sb.drop)) h)
    · -- else
      have hcn : cntP n := Decidable.not_not.1 fun h => h2 (.inl h)
      refine WC.skip <| WX.thenN <| WC.seq <| WC.seq <| WC.region <| sv (vfldpz fl57f0 rfl) <| sv (vldc pl3 rfl) <| sv (veq rfl rfl) <| WL.nil <| WX.thenN <| ?_
      refine WC.ite rfl (fun h3 => ?_) (fun h3 => ?_)
      · -- then
        exact WC.seq <| WC.draws rfl (by kernel_rfl) <| qv (vfldp fl57f2 rfl) <| qv (vldc pl3 rfl) <| qv (vmP rfl) <| qv (vfldp fl57f1 rfl) <| qv (vldc pl9 rfl) <| qcl (Fun.quiet (ref_floor (fl := fl) (by omega))) ct46 rfl <| qv (vgt rfl rfl) <| qv (vaI rfl) <| qv (vaB rfl) <| WQ.nil <| WX.thenN <| WC.ret <| WX.thenR <| WX.ret2 rfl (()) (trivial) (tupR (by rw [hdrop h3]; unfold whyDrop; rw [if_neg (fun x => x hnm), if_neg (fun x => x hcn), hfloor])) (fun _ h => Sb.own (by repeat' (first | with_reducible exact Sb.all | exact Sb.nil | (apply Sb.cons; focus (first | ((repeat (first | with_reducible exact Tk.here | with_reducible apply Tk.there)); done) | ((repeat (first | exact Tk.here | apply Tk.there)); done))) | apply Sb.drop)) h)
      · -- else
        have hk1 : kind = 1 := by omega
        have hmay : mayP pk pn := Decidable.not_not.1 fun h => h2 (.inr ⟨hk1, h⟩)
        refine WC.skip <| WX.thenN <| WC.seq <| WC.seq <| WC.draws rfl (by kernel_rfl) <| qv (vfldp fl57f2 rfl) <| qv (vldc pl3 rfl) <| qv (vmP rfl) <| qv (vfldp fl57f1 rfl) <| qv (vldc pl9 rfl) <| qcl (Fun.quiet (ref_floor (fl := fl) (by omega))) ct46 rfl <| qv (vlt rfl rfl) <| WQ.nil <| WX.thenN <| ?_
        refine WC.ite rfl (fun h4 => ?_) (fun h4 => ?_)
        · -- then
          rw [hfloor] at h4
          have e : whyR d kind ⟨f, n, pk, pn⟩ = (7, false) := by rw [hput hk1]; unfold whyPut; rw [if_neg (fun x => x hnm), if_neg (fun x => x ⟨hcn, hmay⟩), if_pos h4]
          rw [e]
          exact WC.seq <| WC.region <| sv (vaI rfl) <| sv (vaB rfl) <| WL.nil <| WX.thenN <| WC.ret <| WX.thenR <| WX.ret2 rfl (()) (trivial) rfl (fun _ h => Sb.own (by repeat' (first | with_reducible exact Sb.all | exact Sb.nil | (apply Sb.cons; focus (first | ((repeat (first | with_reducible exact Tk.here | with_reducible apply Tk.there)); done) | ((repeat (first | exact Tk.here | apply Tk.there)); done))) | apply Sb.drop)) h)
        · -- else
          rw [hfloor] at h4
          refine WC.skip <| WX.thenN <| WC.seq <| WC.region <| sv (vmP rfl) <| sv (vfldp fl57f1 rfl) <| sv (vldc pl9 rfl) <| sv (vfldp fl57f2 rfl) <| sv (vldc pl3 rfl) <| sv (vfldp fl57f3 rfl) <| sv (vldap (i := 3) (cs := [.int .i64 pk, .int .i64 pn]) ag46 sz46 rfl rfl rfl (by decide)) <| clx (by repeat' (first | with_reducible exact Sb.all | exact Sb.nil | (apply Sb.cons; focus (first | ((repeat (first | with_reducible exact Tk.here | with_reducible apply Tk.there)); done) | ((repeat (first | exact Tk.here | apply Tk.there)); done))) | apply Sb.drop)) (ref_find16 (l := l) (by omega)) ct47 rfl fun r19 hr19 => ?_
          refine sv (vlt rfl rfl) <| sv (vaI rfl) <| sv (vaB rfl) <| WL.nil <| WX.thenN <| WC.ret <| WX.ret2 rfl (()) (trivial) (tupR (by rw [hput hk1]; unfold whyPut; rw [if_neg (fun x => x hnm), if_neg (fun x => x ⟨hcn, hmay⟩), if_neg h4]; have := hr19.neg hi.nd; rw [hi.look] at this; rw [Prod.mk.injEq]; refine ⟨rfl, ?_⟩; rw [Bool.eq_iff_iff, decide_eq_true_iff, this, Option.isNone_iff_eq_none])) (fun _ h => Sb.own (by repeat' (first | with_reducible exact Sb.all | exact Sb.nil | (apply Sb.cons; focus (first | ((repeat (first | with_reducible exact Tk.here | with_reducible apply Tk.there)); done) | ((repeat (first | exact Tk.here | apply Tk.there)); done))) | apply Sb.drop)) h)
theorem callC_one (x : PK × Sla UInt8) : ∀ v ∈ callC x, v.oneCell' = true := by
  intro v hv; simp only [callC, vc6, List.mem_cons, List.not_mem_nil, or_false] at hv; rcases hv with rfl | rfl | rfl | rfl | rfl | rfl <;> rfl
theorem flC_one (x : ByteArray × Int) : ∀ v ∈ flC x, v.oneCell' = true := by
  intro v hv; simp only [flC, vc6, List.mem_cons, List.not_mem_nil, or_false] at hv; rcases hv with rfl | rfl | rfl | rfl | rfl | rfl <;> rfl
theorem ref_done_put {w0 : World} {A : List HProp} {r w N : Nat} {d : VD} {k : PK} {b : Sla UInt8} (hk : PkOk k) (hn : d.parts k = none) (hb : b.xs.length ≤ 1048576) (hN : N ≤ 1099511627776) [hRb : Reads w0 A b.base (u8s b.xs)] :
    Fun Tryz.prog w0 21 [.pointer (some ⟨r, 0, none⟩), .agg (vc6 1 k.flow k.num k.kind k.n b).toArray] (rv r w N d :: A) (Ret w0 (fun _ : Unit => True) (fun _ => .tuple #[]) (fun _ => rv r w (N + 1) (putD d k b.xs) :: A)) := by
  refine Fun.ex (fun w h => rv_open h) ?_
  rintro ⟨l, fl, lb, lc, fb, fc⟩ hi
  have hlen := hi.len
  have hfl := fla_length (f := callC) (l := l) callC_len
  dsimp only [rvc] at hlen ⊢
  refine Fun.enter Tryz.func21 rfl Tryz.ntmps21 rfl ?_
  refine WC.seq <| WC.region <| bxc (v := .agg _) (cs := [.int _ _, .string _, .int _ _, .int _ _, .int _ _, .slice _ _ _]) rfl rfl fun b1 => WL.nil <| WX.thenN <| WC.seq <| WC.seq <| WC.region <| sv (vfldpz fl57f0 rfl) <| sv (vldc pl3 rfl) <| sv (veq rfl rfl) <| WL.nil <| WX.thenN <| ?_
  refine WC.ite rfl (fun h1 => ?_) (fun h1 => ?_)
  · -- then
    refine WC.seq <| WC.region <| sv (vaS rfl) <| WL.nil <| WX.thenN <| WC.seq <| WC.region <| sv (vmS rfl) <| sv (vfldp fl57f4 rfl) <| sv (vldc pl23 rfl) <| pm (fun _ h => Own.nil_u8 (e := 5) h) <| apb Tryz.underlying23 zt5 rfl rfl rfl rfl reads (by omega) fun base4 c4 hc4 =>?_
    rw [List.nil_append, Nat.zero_add b.xs.length]
    refine sv (vaS rfl) <| WL.nil <| WX.thenN <| WC.seq <| WC.region <| sv (vmS rfl) <| sv (vfldp fl57f4 rfl) <| stp (v := .slice _ _ _) pl23 sz23 rfl rfl rfl <| WL.nil <| WX.thenN <| WC.seq <| WC.plan (.pre [5] (.one [0, 1, 2, 3, 4] 6 (.one [] 7 (.bar [8, 9] 10 (.done []))))) rfl (by kernel_rfl) <| WPl.preC <| dv (fun g => (vldac ag57 sz57 rfl rfl (by decide))) <| WD.nil <| WPl.oneX [row lb lc _ _ _] (by repeat' (first | exact Spl.nil | (apply Spl.cons; focus (first | ((repeat (first | with_reducible exact Tk.here | with_reducible apply Tk.there)); done) | ((repeat (first | exact Tk.here | apply Tk.there)); done))))) (fun g => by infer_instance) ?_
    refine dv (fun g => (vmP rfl)) <| dv (fun g => (vmP rfl)) <| dv (fun g => (vnil rfl)) <| dv (fun g => (vfldpz fl53f0 rfl)) <| dv (fun g => (vldc pl50 rfl)) <| WD.eff rfl <| bslA (v := .agg _) (cs := callC (k, ⟨base4, b.xs, c4⟩)) Tryz.underlying50 zt57 rfl rfl rfl (by decide) (by decide) fun b8 => WL.nil <| WX.br <| WPl.oneX [row lb lc _ _ _] (by repeat' (first | exact Spl.nil | (apply Spl.cons; focus (first | ((repeat (first | with_reducible exact Tk.here | with_reducible apply Tk.there)); done) | ((repeat (first | exact Tk.here | apply Tk.there)); done))))) (fun g => by infer_instance) ?_
    refine WD.eff rfl <| pm (fun _ h => Sb.own (by repeat' (first | with_reducible exact Sb.all | exact Sb.nil | (apply Sb.cons; focus (first | ((repeat (first | with_reducible exact Tk.here | with_reducible apply Tk.there)); done) | ((repeat (first | exact Tk.here | apply Tk.there)); done))) | apply Sb.drop)) h) <| ap (vs := fla callC l) (news := callC (k, ⟨base4, b.xs, c4⟩)) rfl Tryz.underlying50 zt57 rfl rfl rfl (by omega) (rfl) (callC_one _) ((RdC.of_cel (e := 57) (ws := callC (k, ⟨base4, b.xs, c4⟩)) 0 (by simp) (by simp))) (by simp only [maxLen]; omega) (by omega) fun base9 c9 hc9 => ?_
    refine WL.nil <| WX.br <| WPl.barC <| dv (fun g => (vnil rfl)) <| dv (fun g => (vfldpz fl53f0 rfl)) <| WD.eff rfl <| stp (v := .slice _ _ _) pl50 sz50 rfl rfl rfl <| WL.nil <| WX.brT <| WPl.finC <| WD.nil <| WX.thenN <| WC.ret <| WX.thenR <| WX.ret0 rfl (()) (trivial) rfl (fun w h => ?_)
    have h2 := rows_snoc (e := 5) (y := ⟨base4, b.xs, c4⟩) (l := l.map Prod.snd) (Own.sp2 (by repeat' (first | exact Spl.nil | (apply Spl.cons; focus (first | ((repeat (first | with_reducible exact Tk.here | with_reducible apply Tk.there)); done) | ((repeat (first | exact Tk.here | apply Tk.there)); done))))) h)
    refine rv_mk (i := ⟨l ++ [(k, ⟨base4, b.xs, c4⟩)], fl, base9, c9, fb, fc⟩) (hi.put (s := ⟨base4, b.xs, c4⟩) hk hn ⟨by dsimp only; omega, hb⟩) ?_
    dsimp only [rvc]
    rw [fla_snoc, List.map_append, List.length_append]
    exact Sb.own (by repeat' (first | with_reducible exact Sb.all | exact Sb.nil | (apply Sb.cons; focus (first | ((repeat (first | with_reducible exact Tk.here | with_reducible apply Tk.there)); done) | ((repeat (first | exact Tk.here | apply Tk.there)); done))) | apply Sb.drop)) h2
  · -- else
    exact absurd rfl h1
theorem filter_take {l : List (PK × Sla UInt8)} {i : Nat} {x : PK × Sla UInt8} {p : PK × Sla UInt8 → Bool} (h : l[i]? = some x) : (l.take (i + 1)).filter p = if p x = true then (l.take i).filter p ++ [x] else (l.take i).filter p := by
  rw [List.take_add_one, h, List.filter_append]
  by_cases hp : p x = true
  · rw [if_pos hp]; simp [hp]
  · rw [if_neg hp]; simp [hp]
theorem ref_done_drop {w0 : World} {A : List HProp} {r w N : Nat} {d : VD} {f : ByteArray} {n : Int} (hf : f.size ≤ 140737488351232) (hN : N ≤ 1099511627776) :
    Fun Tryz.prog w0 21 [.pointer (some ⟨r, 0, none⟩), .agg (vc6 2 f n 0 0 ⟨none, [], 0⟩).toArray] (rv r w N d :: A) (Ret w0 (fun _ : Unit => True) (fun _ => .tuple #[]) (fun _ => rv r w (N + 1) (dropD d f n) :: A)) := by
  refine Fun.ex (fun w h => rv_open h) ?_
  rintro ⟨l, fl, lb, lc, fb, fc⟩ hi
  have hlen := hi.len
  have hcl := fla_length (f := callC) (l := l) callC_len
  have hfl := fla_length (f := flC) (l := fl) flC_len
  dsimp only [rvc] at hlen ⊢
  refine Fun.enter Tryz.func21 rfl Tryz.ntmps21 rfl ?_
  refine WC.seq <| WC.region <| bxc (v := .agg _) (cs := [.int _ _, .string _, .int _ _, .int _ _, .int _ _, .slice _ _ _]) rfl rfl fun b1 => WL.nil <| WX.thenN <| WC.seq <| WC.seq <| WC.region <| sv (vfldpz fl57f0 rfl) <| sv (vldc pl3 rfl) <| sv (veq rfl rfl) <| WL.nil <| WX.thenN <| ?_
  refine WC.ite rfl (fun h1 => ?_) (fun h1 => ?_)
  · -- then
    exact absurd h1 (by decide)
  · -- else
    refine WC.skip <| WX.thenN <| WC.seq <| WC.region <| sv (vaS rfl) <| WL.nil <| WX.thenN <| WC.seq <| WC.seq <| WC.region <| sv (vaI rfl) <| WL.nil <| WX.thenN <| WC.block <| ?_
    refine WC.loop (ι := Nat × Option Addr × Nat) (fun i => [(5, .slice i.2.1 ((l.take i.1).filter (stayB f n)).length i.2.2), (6, .int .i64 i.1)]) [(0, .pointer _), (3, _)] (fun i => row i.2.1 i.2.2 6 57 (fla callC ((l.take i.1).filter (stayB f n))) :: cel b1 (vc6 2 f n 0 0 ⟨none, [], 0⟩) 57 :: cel r [.slice lb l.length lc, .slice fb fl.length fc, .pointer (some ⟨w, 0, none⟩)] 53 :: row lb lc 6 57 (fla callC l) :: row fb fc 6 57 (fla flC fl) :: rows 5 (l.map Prod.snd) :: A) (fun i => i.1 ≤ l.length) (fun i => l.length - i.1) ((0, none, 0)) (Nat.zero_le _) ⟨rfl, rfl, trivial⟩ ⟨rfl, rfl, trivial⟩ (fun w h => by have h2 := h.intro_row_nil (s := 6) (e := 57); exact Sb.own (by repeat' (first | with_reducible exact Sb.all | exact Sb.nil | (apply Sb.cons; focus (first | ((repeat (first | with_reducible exact Tk.here | with_reducible apply Tk.there)); done) | ((repeat (first | exact Tk.here | apply Tk.there)); done))) | apply Sb.drop)) h2) ?_
    rintro ⟨i, rb, rc⟩ hi1 ρh
    dsimp only at hi1 ⊢
    refine WC.seq <| WC.seq <| WC.region <| sv (vmI rfl) <| sv (vmP rfl) <| sv (vnil rfl) <| sv (vfldpz fl53f0 rfl) <| sv (vldc pl50 rfl) <| sv (vlen Tryz.underlying50 rfl) <| sv (vlt rfl rfl) <| WL.nil <| WX.thenN <| ?_
    refine WC.ite rfl (fun h2 => ?_) (fun h2 => ?_)
    · -- then
      have hil : i < l.length := by omega
      obtain ⟨a, ha⟩ : ∃ a, l[i]? = some a := ⟨_, List.getElem?_eq_getElem hil⟩
      have hpos : 0 < (fla callC l).length := by omega
      refine WC.known (fun w h => rsomeV (base := lb) hpos (RdC.of_row (c := lc) (s := 6) (e := 57) (by simp)) h) fun hb => ?_
      have hf1 := fla6 callC_len ha 1 (by omega)
      have hf2 := fla6 callC_len ha 2 (by omega)
      have hag := fla6d callC_len ha
      have hft := filter_take (p := stayB f n) ha
      have hrl := fla_length (f := callC) (l := (l.take i).filter (stayB f n)) callC_len
      have hll : ((l.take i).filter (stayB f n)).length ≤ l.length := Nat.le_trans (List.length_filter_le _ _) (by rw [List.length_take]; omega)
      refine WC.skip <| WX.thenN <| WC.seq <| WC.block <| ?_
      refine WC.cutS [(58, .bool (decide (stayB f n a = true)))] [(0, .pointer _), (3, _), (5, .slice _ _ _), (6, .int _ _)] ⟨rfl, rfl, rfl, rfl, trivial⟩ ?_ fun ρh => ?_
      · -- ref.go:112
        refine WC.draws rfl (by kernel_rfl) <| qv (vmP rfl) <| qv (vnil rfl) <| qv (vfldpz fl53f0 rfl) <| qv (vldc pl50 rfl) <| qv (vmI rfl) <| qv (vix Tryz.underlying50 sz57 rfl rfl (by omega) (by omega) reads (hpos)) <| qv (vfldr (hb) fl57f1 rfl) <| qv (vldo pl9 rfl reads (hf1)) <| qv (vfldp fl57f1 rfl) <| qv (vldc pl9 rfl) <| qvs (vnes rfl rfl) (fun q1 => ?_) (fun q1 => ?_)
        ·
          exact qv (vmB rfl) <| qng rfl <| qng rfl <| qng rfl <| qng rfl <| qng rfl <| qng rfl <| qng rfl <| qng rfl <| qng rfl <| qng rfl <| qng rfl <| qv (vpkt rfl) <| WQ.nil <| WX.mid () trivial ⟨bT (decide_eq_true (.inl q1)), trivial⟩ ⟨rfl, rfl, rfl, rfl, trivial⟩ (fun _ h => Sb.own (by repeat' (first | with_reducible exact Sb.all | exact Sb.nil | (apply Sb.cons; focus (first | ((repeat (first | with_reducible exact Tk.here | with_reducible apply Tk.there)); done) | ((repeat (first | exact Tk.here | apply Tk.there)); done))) | apply Sb.drop)) h)
        ·
          exact qv (vmB rfl) <| qvg rfl (vmP rfl) <| qvg rfl (vnil rfl) <| qvg rfl (vfldpz fl53f0 rfl) <| qvg rfl (vldc pl50 rfl) <| qvg rfl (vmI rfl) <| qvg rfl (vix Tryz.underlying50 sz57 rfl rfl (by omega) (by omega) reads (hpos)) <| qvg rfl (vfldr (hb) fl57f2 rfl) <| qvg rfl (vldo pl3 rfl reads (hf2)) <| qvg rfl (vfldp fl57f2 rfl) <| qvg rfl (vldc pl3 rfl) <| qvg rfl (vge rfl rfl) <| qv (vpkf rfl) <| WQ.nil <| WX.mid () trivial ⟨bI ⟨fun h => decide_eq_true (.inr h), fun h => (of_decide_eq_true h).resolve_left (fun x => q1 x)⟩, trivial⟩ ⟨rfl, rfl, rfl, rfl, trivial⟩ (fun _ h => Sb.own (by repeat' (first | with_reducible exact Sb.all | exact Sb.nil | (apply Sb.cons; focus (first | ((repeat (first | with_reducible exact Tk.here | with_reducible apply Tk.there)); done) | ((repeat (first | exact Tk.here | apply Tk.there)); done))) | apply Sb.drop)) h)
      refine WC.ite rfl (fun h3 => ?_) (fun h3 => ?_)
      · -- then
        refine WC.region <| sv (vmS rfl) <| sv (vmP rfl) <| sv (vnil rfl) <| sv (vfldpz fl53f0 rfl) <| sv (vldc pl50 rfl) <| sv (vmI rfl) <| sv (vix Tryz.underlying50 sz57 rfl rfl (by omega) (by omega) reads (hpos)) <| sv (vlda ag57 sz57 rfl reads (hag) rfl (by decide)) <| pm (fun _ h => Sb.own (by repeat' (first | with_reducible exact Sb.all | exact Sb.nil | (apply Sb.cons; focus (first | ((repeat (first | with_reducible exact Tk.here | with_reducible apply Tk.there)); done) | ((repeat (first | exact Tk.here | apply Tk.there)); done))) | apply Sb.drop)) h) <| apA (v := .agg _) (cs := callC a) Tryz.underlying50 zt57 rfl (fun _ => rfl) (fun _ => rfl) rfl rfl rfl (by decide) (by decide) (by intro v hv; simp only [List.mem_cons, List.not_mem_nil, or_false] at hv; rcases hv with rfl | rfl | rfl | rfl | rfl | rfl <;> rfl) (by omega) (by simp only [maxLen]; omega) (by omega) fun _ base24 c24 hc24 => ?_
        exact sv (vaS rfl) <| WL.nil <| WX.blockN <| WX.thenN <| WC.region <| sv (vmI rfl) <| sv (vadd rfl rfl (by omega)) <| sv (vaI rfl) <| WL.nil <| WX.again ((i + 1, base24, c24)) (by omega) (by omega) ⟨(show Value.slice base24 (((l.take i).filter (stayB f n)).length + 1) c24 = .slice base24 ((l.take (i + 1)).filter (stayB f n)).length c24 from by rw [hft, if_pos h3, List.length_append]; rfl), rfl, trivial⟩ ⟨rfl, rfl, trivial⟩ (fun w h => by rw [hft, if_pos h3, fla_snoc]; exact Sb.own (by repeat' (first | with_reducible exact Sb.all | exact Sb.nil | (apply Sb.cons; focus (first | ((repeat (first | with_reducible exact Tk.here | with_reducible apply Tk.there)); done) | ((repeat (first | exact Tk.here | apply Tk.there)); done))) | apply Sb.drop)) h)
      · -- else
        exact WC.skip <| WX.blockN <| WX.thenN <| WC.region <| sv (vmI rfl) <| sv (vadd rfl rfl (by omega)) <| sv (vaI rfl) <| WL.nil <| WX.again ((i + 1, rb, rc)) (by omega) (by omega) ⟨(show Value.slice rb ((l.take i).filter (stayB f n)).length rc = .slice rb ((l.take (i + 1)).filter (stayB f n)).length rc from by rw [hft, if_neg h3]), rfl, trivial⟩ ⟨rfl, rfl, trivial⟩ (fun w h => by rw [hft, if_neg h3]; exact Sb.own (by repeat' (first | with_reducible exact Sb.all | exact Sb.nil | (apply Sb.cons; focus (first | ((repeat (first | with_reducible exact Tk.here | with_reducible apply Tk.there)); done) | ((repeat (first | exact Tk.here | apply Tk.there)); done))) | apply Sb.drop)) h)
    · -- else
      have htk : l.take i = l := List.take_of_length_le (by omega)
      rw [htk]
      refine WC.exit <| WX.thenE <| WX.thenE <| WX.blockH <| WX.thenN <| WC.seq <| WC.region <| sv (vmP rfl) <| sv (vmS rfl) <| sv (vnil rfl) <| sv (vfldpz fl53f0 rfl) <| stp (v := .slice _ _ _) pl50 sz50 rfl rfl rfl <| WL.nil <| WX.thenN <| WC.plan (.pre [5] (.one [0, 1, 2, 3, 4] 6 (.one [] 7 (.bar [8, 9] 10 (.done []))))) rfl (by kernel_rfl) <| WPl.preC <| dv (fun g => (vldac ag57 sz57 rfl rfl (by decide))) <| WD.nil <| WPl.oneX [row fb fc _ _ _] (by repeat' (first | exact Spl.nil | (apply Spl.cons; focus (first | ((repeat (first | with_reducible exact Tk.here | with_reducible apply Tk.there)); done) | ((repeat (first | exact Tk.here | apply Tk.there)); done))))) (fun g => by infer_instance) ?_
      refine dv (fun g => (vmP rfl)) <| dv (fun g => (vmP rfl)) <| dv (fun g => (vnil rfl)) <| dv (fun g => (vfldp fl53f1 rfl)) <| dv (fun g => (vldc pl50 rfl)) <| WD.eff rfl <| bslA (v := .agg _) (cs := flC (f, n)) Tryz.underlying50 zt57 rfl rfl rfl (by decide) (by decide) fun b29 => WL.nil <| WX.br <| WPl.oneX [row fb fc _ _ _] (by repeat' (first | exact Spl.nil | (apply Spl.cons; focus (first | ((repeat (first | with_reducible exact Tk.here | with_reducible apply Tk.there)); done) | ((repeat (first | exact Tk.here | apply Tk.there)); done))))) (fun g => by infer_instance) ?_
      refine WD.eff rfl <| pm (fun _ h => Sb.own (by repeat' (first | with_reducible exact Sb.all | exact Sb.nil | (apply Sb.cons; focus (first | ((repeat (first | with_reducible exact Tk.here | with_reducible apply Tk.there)); done) | ((repeat (first | exact Tk.here | apply Tk.there)); done))) | apply Sb.drop)) h) <| ap (vs := fla flC fl) (news := flC (f, n)) rfl Tryz.underlying50 zt57 rfl rfl rfl (by omega) (rfl) (flC_one _) ((RdC.of_cel (e := 57) (ws := flC (f, n)) 0 (by simp) (by simp))) (by simp only [maxLen]; omega) (by omega) fun base30 c30 hc30 => ?_
      refine WL.nil <| WX.br <| WPl.barC <| dv (fun g => (vnil rfl)) <| dv (fun g => (vfldp fl53f1 rfl)) <| WD.eff rfl <| stp (v := .slice _ _ _) pl50 sz50 rfl rfl rfl <| WL.nil <| WX.brT <| WPl.finC <| WD.nil <| WX.end0 rfl (()) (trivial) rfl (fun w h => ?_)
      have h2 := rows_filter (e := 5) (p := stayB f n) (l := l) (Own.sp1 (by repeat' (first | exact Spl.nil | (apply Spl.cons; focus (first | ((repeat (first | with_reducible exact Tk.here | with_reducible apply Tk.there)); done) | ((repeat (first | exact Tk.here | apply Tk.there)); done))))) h)
      refine rv_mk (i := ⟨l.filter (stayB f n), fl ++ [(f, n)], rb, rc, base30, c30⟩) (hi.drop hf) ?_
      dsimp only [rvc]
      rw [fla_snoc, List.length_append]
      exact Sb.own (by repeat' (first | with_reducible exact Sb.all | exact Sb.nil | (apply Sb.cons; focus (first | ((repeat (first | with_reducible exact Tk.here | with_reducible apply Tk.there)); done) | ((repeat (first | exact Tk.here | apply Tk.there)); done))) | apply Sb.drop)) h2
end Go.Proofs.YthljpljbpbkkcaaGreatDoor
end
section
set_option linter.unusedVariables false
set_option linter.unusedSimpArgs false
namespace Go.Sl
open Go.RowKit Go.Sort Go.Shelf Go.Proofs

def sortI (xs : List Int) : List Int := xs.mergeSort fun x y => decide (x ≤ y)
theorem sortI_perm (xs : List Int) : (sortI xs).Perm xs := List.mergeSort_perm xs _
theorem sortI_sorted (xs : List Int) : (sortI xs).Pairwise (· ≤ ·) := by
  have := List.pairwise_mergeSort (le := fun x y : Int => decide (x ≤ y)) (fun a b c h1 h2 => by simp only [decide_eq_true_eq] at *; omega) (fun a b => by simp only [Bool.or_eq_true, decide_eq_true_eq]; omega) xs
  exact this.imp fun h => by simpa using h
theorem prefix_at {α : Type} {vs cur : List α} {o : Nat} (hp : vs <+: cur.drop o) {j : Nat} (hj : j < vs.length) : cur[o + j]? = vs[j]? := by
  obtain ⟨t, ht⟩ := hp
  rw [← List.getElem?_drop, ← ht, List.getElem?_append_left hj]
theorem putCells_prefix {zs : List Int} {cur : List Value} {o : Nat} (hl : o + zs.length ≤ cur.length) : i64s zs <+: (putCells (Value.int .i64) o zs.toArray cur.toArray).toList.drop o := by
  refine ⟨((putCells (Value.int .i64) o zs.toArray cur.toArray).toList.drop o).drop zs.length, ?_⟩
  apply List.ext_getElem?
  intro j
  by_cases hj : j < zs.length
  · rw [List.getElem?_append_left (by simpa [i64s] using hj), i64s_at hj, List.getElem?_drop]
    simp only [putCells, Array.getElem?_toList, Array.getElem?_mapIdx]
    rw [List.getElem?_toArray, List.getElem?_eq_getElem (by omega), Option.map_some, if_pos ⟨by omega, by simp; omega⟩]
    have : o + j - o = j := by omega
    rw [this, getElem!_pos zs.toArray j (by simpa using hj)]
    simp
  · rw [List.getElem?_append_right (by simp [i64s]; omega), List.getElem?_drop]
    simp only [i64s, List.length_map]
    rw [show zs.length + (j - zs.length) = j by omega]
theorem Own.grow {w0 w : World} {A : List HProp} (H : Own w0 A w) (os : Array Obj) : Own w0 A (Sort.grow w os) :=
  H.grown ⟨rfl, rfl, rfl, by simp [Sort.grow], fun k hk => by simp only [Sort.grow]; rw [Array.getElem?_append_left hk]⟩
theorem sort_ints {P : Program} {ρ : Ren} (L : Lays.n189 P ρ) {w0 : World} {R : List HProp} {base : Option Addr} {c : Nat} {e : TypeId} {xs : List Int} (hl : xs.length ≤ 1099511627776) :
    Fun P w0 (ρ.f 189) [.slice base xs.length c] (row base c 1 e (i64s xs) :: R) (Ret w0 (fun _ : Unit => True) (fun _ => .tuple #[]) (fun _ => row base c 1 e (i64s (sortI xs)) :: R)) := by
  refine ⟨fun w hw => ?_⟩
  rcases hw.row with ⟨rfl, h2, rfl, hO⟩ | ⟨g, o, cur, rfl, hp, hlen, hc, hO⟩
  · have : xs = [] := by simpa [i64s] using h2
    subst this
    exact (Any.slices_Sort_int_none L none 0 w).mono fun e' w' ⟨he, hw'⟩ => ⟨(), trivial, he, by rw [hw']; show Own w0 (Sl.row none 0 1 e (i64s (sortI [])) :: R) w; rw [show sortI [] = [] by simp [sortI]]; exact hw⟩
  · obtain ⟨fz, hf, hO1⟩ := hO.cel
    have hh : w.heap[g]? = some (.cells cur.toArray e fz) := hO1.heap.1
    have hxl : (i64s xs).length = xs.length := by simp
    have hH : Holds (Value.int .i64) w g o xs.toArray := fun j hj => by
      have hj' : j < xs.length := by simpa using hj
      refine ⟨?_, frozen_cel hh hf _ (by omega)⟩
      rw [cell_cel hh, prefix_at hp (by omega), i64s_at hj', getElem!_pos xs.toArray j hj]
      simp
    refine (Any.slices_Sort_int L g o c xs w hH (Array.getElem?_eq_some_iff.1 hh).1 (by omega)).mono ?_
    rintro e' w' ⟨he, n, os, hw'⟩
    refine ⟨(), trivial, he, ?_⟩
    rw [hw']
    refine Own.grow ?_ os
    have hsl : (sortI xs).length = xs.length := (sortI_perm xs).length_eq
    have hcl : (putCells (Value.int .i64) o (sortI xs).toArray cur.toArray).toList.length = cur.length := by simp [putCells]
    have ht : Turned w (putRow (Value.int .i64) (Sort.ahead w n) g o (sortI xs).toArray) g (.cells (putCells (Value.int .i64) o (sortI xs).toArray cur.toArray).toList.toArray e fz) := by
      refine ⟨rfl, rfl, rfl, by simp [putRow, mapBlock, Sort.ahead], ?_, fun k hk => ?_⟩
      · simp only [putRow, mapBlock, Sort.ahead, Array.getElem?_modify]
        simp only [if_true, hh]; rfl
      · simp only [putRow, mapBlock, Sort.ahead, Array.getElem?_modify]
        rw [if_neg (fun h => hk h.symm)]
    refine Own.intro_rowo (cur := (putCells (Value.int .i64) o (sortI xs).toArray cur.toArray).toList) (putCells_prefix (by omega)) ⟨by simp [hsl]; omega, by omega⟩ hc ?_
    exact Own.intro_cel (by rw [hcl]; exact hf) (hO1.turned ht)
end Go.Sl
end
section
set_option maxRecDepth 100000
namespace Go.Proofs.YthljpljbpbkkcaaGreatDoor
open Go.Shelf
def ly_sorti_ren : Go.Shelf.Ren := ⟨fun | 189 => 82 | 125 => 97 | 257 => 96 | 128 => 110 | 129 => 111 | 294 => 101 | 295 => 102 | 296 => 103 | 297 => 104 | 298 => 105 | 299 => 106 | 216 => 107 | 300 => 108 | 301 => 109 | 328 => 122 | 329 => 123 | 330 => 124 | 331 => 125 | 332 => 126 | 215 => 127 | 343 => 132 | n => n, fun | 28 => 105 | 3 => 3 | 46 => 107 | 0 => 0 | 51 => 70 | 53 => 139 | 4 => 4 | 183 => 149 | 182 => 148 | 131 => 154 | 5 => 5 | 9 => 9 | 218 => 166 | 222 => 170 | 228 => 176 | 229 => 141 | n => n, fun | n => n⟩
theorem ly_sorti : Go.Proofs.Lays.n189 Tryz.prog ly_sorti_ren := {
  mixed := by kernel_rfl
  f125 := Tryz.func97.trans (congrArg some (by kernel_rfl))
  f128 := Tryz.func110.trans (congrArg some (by kernel_rfl))
  f129 := Tryz.func111.trans (congrArg some (by kernel_rfl))
  f189 := Tryz.func82.trans (congrArg some (by kernel_rfl))
  f215 := Tryz.func127.trans (congrArg some (by kernel_rfl))
  f216 := Tryz.func107.trans (congrArg some (by kernel_rfl))
  f257 := Tryz.func96.trans (congrArg some (by kernel_rfl))
  f294 := Tryz.func101.trans (congrArg some (by kernel_rfl))
  f295 := Tryz.func102.trans (congrArg some (by kernel_rfl))
  f296 := Tryz.func103.trans (congrArg some (by kernel_rfl))
  f297 := Tryz.func104.trans (congrArg some (by kernel_rfl))
  f298 := Tryz.func105.trans (congrArg some (by kernel_rfl))
  f299 := Tryz.func106.trans (congrArg some (by kernel_rfl))
  f300 := Tryz.func108.trans (congrArg some (by kernel_rfl))
  f301 := Tryz.func109.trans (congrArg some (by kernel_rfl))
  f328 := Tryz.func122.trans (congrArg some (by kernel_rfl))
  f329 := Tryz.func123.trans (congrArg some (by kernel_rfl))
  f330 := Tryz.func124.trans (congrArg some (by kernel_rfl))
  f331 := Tryz.func125.trans (congrArg some (by kernel_rfl))
  f332 := Tryz.func126.trans (congrArg some (by kernel_rfl))
  f343 := Tryz.func132.trans (congrArg some (by kernel_rfl))
  t0 := Tryz.underlying0
  a0 := Tryz.isAgg0
  z0 := Tryz.sizeOf0
  v0 := Tryz.zeroValue0
  t3 := Tryz.underlying3
  a3 := Tryz.isAgg3
  z3 := Tryz.sizeOf3
  v3 := Tryz.zeroValue3
  t4 := Tryz.underlying4
  a4 := Tryz.isAgg4
  z4 := Tryz.sizeOf4
  v4 := Tryz.zeroValue4
  t5 := Tryz.underlying5
  a5 := Tryz.isAgg5
  z5 := Tryz.sizeOf5
  v5 := Tryz.zeroValue5
  t9 := Tryz.underlying9
  a9 := Tryz.isAgg9
  z9 := Tryz.sizeOf9
  v9 := Tryz.zeroValue9
  t28 := Tryz.underlying105
  a28 := Tryz.isAgg105
  z28 := Tryz.sizeOf105
  v28 := Tryz.zeroValue105
  t46 := Tryz.underlying107
  a46 := Tryz.isAgg107
  z46 := Tryz.sizeOf107
  v46 := Tryz.zeroValue107
  t51 := Tryz.underlying70
  a51 := Tryz.isAgg70
  z51 := Tryz.sizeOf70
  v51 := Tryz.zeroValue70
  t53 := Tryz.underlying139
  a53 := Tryz.isAgg139
  z53 := Tryz.sizeOf139
  v53 := Tryz.zeroValue139
  t131 := Tryz.underlying154
  a131 := Tryz.isAgg154
  z131 := Tryz.sizeOf154
  v131 := Tryz.zeroValue154
  t182 := Tryz.underlying148
  a182 := Tryz.isAgg148
  z182 := Tryz.sizeOf148
  v182 := Tryz.zeroValue148
  t183 := Tryz.underlying149
  a183 := Tryz.isAgg149
  z183 := Tryz.sizeOf149
  v183 := Tryz.zeroValue149
  t218 := Tryz.underlying166
  a218 := Tryz.isAgg166
  z218 := Tryz.sizeOf166
  v218 := Tryz.zeroValue166
  t222 := Tryz.underlying170
  a222 := Tryz.isAgg170
  z222 := Tryz.sizeOf170
  v222 := Tryz.zeroValue170
  t228 := Tryz.underlying176
  a228 := Tryz.isAgg176
  z228 := Tryz.sizeOf176
  v228 := Tryz.zeroValue176
  t229 := Tryz.underlying141
  a229 := Tryz.isAgg141
  z229 := Tryz.sizeOf141
  v229 := Tryz.zeroValue141 }
end Go.Proofs.YthljpljbpbkkcaaGreatDoor
end
section
set_option linter.unusedVariables false
set_option linter.unusedSimpArgs false
set_option maxRecDepth 4000
namespace Go.Proofs.YthljpljbpbkkcaaGreatDoor
open Go.Sl Go.RowKit Go.Pack Go.Vault Go.Journal

/-- these are the numbers of the flow's checkpoints -/
structure NumsOf (d : VD) (f : ByteArray) (l : List Int) : Prop where
  sorted : l.Pairwise (· < ·)
  mem : ∀ n, n ∈ l ↔ ∃ k, k.flow = f ∧ k.num = n ∧ (d.parts k).isSome = true
theorem lt_uniq : ∀ {l m : List Int}, l.Pairwise (· < ·) → m.Pairwise (· < ·) → (∀ n, n ∈ l ↔ n ∈ m) → l = m
  | [], [], _, _, _ => rfl
  | [], y :: m, _, _, h => by have := (h y).2 List.mem_cons_self; cases this
  | x :: l, [], _, _, h => by have := (h x).1 List.mem_cons_self; cases this
  | x :: l, y :: m, h1, h2, h => by
    rw [List.pairwise_cons] at h1 h2
    have hxy : x = y := by
      have a := (h x).1 List.mem_cons_self
      have b := (h y).2 List.mem_cons_self
      rcases List.mem_cons.1 a with a | a
      · exact a
      · rcases List.mem_cons.1 b with b | b
        · exact b.symm
        · have := h2.1 x a; have := h1.1 y b; omega
    subst hxy
    congr 1
    refine lt_uniq h1.2 h2.2 fun n => ⟨fun hn => ?_, fun hn => ?_⟩
    · rcases List.mem_cons.1 ((h n).1 (List.mem_cons_of_mem _ hn)) with rfl | h'
      · exact absurd (h1.1 n hn) (by omega)
      · exact h'
    · rcases List.mem_cons.1 ((h n).2 (List.mem_cons_of_mem _ hn)) with rfl | h'
      · exact absurd (h2.1 n hn) (by omega)
      · exact h'
theorem NumsOf.uniq {d : VD} {f : ByteArray} {l m : List Int} (h : NumsOf d f l) (k : NumsOf d f m) : l = m := lt_uniq h.sorted k.sorted fun n => (h.mem n).trans (k.mem n).symm
theorem nodup_le : ∀ (N : Nat) (l : List Int), l.Nodup → (∀ x ∈ l, 1 ≤ x ∧ x ≤ N) → l.length ≤ N
  | 0, l, _, h => by
    cases l with
    | nil => exact Nat.le_refl _
    | cons x l => have := h x List.mem_cons_self; omega
  | N + 1, l, hn, h => by
    by_cases hm : ((N + 1 : Nat) : Int) ∈ l
    · have h2 := nodup_le N (l.erase ((N + 1 : Nat) : Int)) (hn.erase _) fun x hx => by
        have hx' := hn.mem_erase_iff.1 hx
        have := h x hx'.2
        have := hx'.1
        omega
      rw [List.length_erase_of_mem hm] at h2
      omega
    · have h2 := nodup_le N l hn fun x hx => by
        have := h x hx
        have : x ≠ ((N + 1 : Nat) : Int) := fun e => hm (e ▸ hx)
        omega
      omega
theorem lt_of_sorted {l : List Int} (h : l.Pairwise (· ≤ ·)) (hn : l.Nodup) : l.Pairwise (· < ·) := by
  induction l with
  | nil => exact List.Pairwise.nil
  | cons x l ih =>
    rw [List.pairwise_cons] at h ⊢
    rw [List.nodup_cons] at hn
    refine ⟨fun y hy => ?_, ih h.2 hn.2⟩
    have := h.1 y hy
    have : x ≠ y := fun e => hn.1 (e ▸ hy)
    omega
/-- every part that is there has a number that counts -/
def Cnt (d : VD) : Prop := ∀ k, (d.parts k).isSome = true → cntP k.num
theorem i64s_getN {xs : List Int} {i : Nat} (h : i < xs.length) : (i64s xs)[((i : Int)).toNat]? = some (.int .i64 (xs.getD i 0)) := by
  have : ((i : Int)).toNat = i := by omega
  rw [this, i64s_at h, List.getD_eq_getElem?_getD, List.getElem?_eq_getElem h]; rfl
theorem getD_mem {xs : List Int} {i : Nat} (h : i < xs.length) : xs.getD i 0 ∈ xs := by
  rw [List.getD_eq_getElem?_getD, List.getElem?_eq_getElem h]; exact List.getElem_mem h
theorem sl_index {w0 : World} {A : List HProp} {base : Option Addr} {xs : List Int} {c : Nat} {v : Int} [hR : Reads w0 A base (i64s xs)] (hl : xs.length ≤ 140737488351232) : Fun Tryz.prog w0 95 [.slice base xs.length c, .int .i64 v] A (Ret w0 (fun i : Int => 0 ≤ i ↔ v ∈ xs) (fun i => .int .i64 i) (fun _ => A)) := by
  refine Fun.enter Tryz.func95 rfl Tryz.ntmps95 rfl ?_
  refine WC.seq <| WC.region <| sv (vaI rfl) <| WL.nil <| WX.thenN <| WC.seq <| WC.seq <| WC.region <| sv (vmS rfl) <| sv (vlen Tryz.underlying105 rfl) <| sv (vmI rfl) <| WL.nil <| WX.thenN <| WC.block <| ?_
  refine WC.loopS (ι := Nat) (fun i => [(8, .int .i64 i)]) [(0, .slice _ _ _), (1, .int _ _), (7, .int _ _)] (fun i => i ≤ xs.length ∧ ∀ j, j < i → xs.getD j 0 ≠ v) (fun i => xs.length - i) (0) (⟨Nat.zero_le _, fun j h => by omega⟩) ⟨rfl, trivial⟩ ⟨rfl, rfl, rfl, trivial⟩ ?_
  intro i hi ρh
  refine WC.seq <| WC.region <| sv (vlt rfl rfl) <| WL.nil <| WX.thenN <| WC.seq <| ?_
  refine WC.ite rfl (fun h1 => ?_) (fun h1 => ?_)
  · -- then
    refine WC.skip <| WX.thenN <| WC.seq <| WC.block <| WC.seq <| WC.region <| sv (vmI rfl) <| sv (vaI rfl) <| WL.nil <| WX.thenN <| WC.seq <| WC.region <| sv (vmI rfl) <| sv (vmS rfl) <| sv (vmI rfl) <| sv (vix1 Tryz.underlying105 sz3 rfl rfl (by omega) (by omega) hR.rd (by rw [i64s_length]; omega)) <| sv (vldr pl3 rfl (i64s_getN (by omega))) <| sv (veq rfl rfl) <| WL.nil <| WX.thenN <| ?_
    refine WC.ite rfl (fun h2 => ?_) (fun h2 => ?_)
    · -- then
      exact WC.seq <| WC.region <| sv (vmI rfl) <| sv (vaI rfl) <| WL.nil <| WX.thenN <| WC.ret <| WX.blockR <| WX.thenR <| WX.thenR <| WX.blockR <| WX.thenR <| WX.ret1 rfl ((i : Int)) (⟨fun _ => by rw [h2]; exact getD_mem (by omega), fun _ => by omega⟩) rfl (fun _ h => Sb.own (by repeat' (first | with_reducible exact Sb.all | exact Sb.nil | (apply Sb.cons; focus (first | ((repeat (first | with_reducible exact Tk.here | with_reducible apply Tk.there)); done) | ((repeat (first | exact Tk.here | apply Tk.there)); done))) | apply Sb.drop)) h)
    · -- else
      exact WC.skip <| WX.blockN <| WX.thenN <| WC.region <| sv (vadd rfl rfl (by omega)) <| sv (vmI rfl) <| WL.nil <| WX.again (i + 1) (⟨by omega, fun j hj => by by_cases hji : j = i; rw [hji]; exact fun e => h2 e.symm; exact hi.2 j (by omega)⟩) (by omega) ⟨rfl, trivial⟩ ⟨rfl, rfl, rfl, trivial⟩ (fun _ h => Sb.own (by repeat' (first | with_reducible exact Sb.all | exact Sb.nil | (apply Sb.cons; focus (first | ((repeat (first | with_reducible exact Tk.here | with_reducible apply Tk.there)); done) | ((repeat (first | exact Tk.here | apply Tk.there)); done))) | apply Sb.drop)) h)
  · -- else
    refine WC.exit <| WX.thenE <| WX.thenE <| WX.blockH <| WX.thenN <| WC.seq <| WC.region <| sv (vaI rfl) <| WL.nil <| WX.thenN <| WC.ret <| WX.ret1 rfl ((-1 : Int)) (⟨fun h => absurd h (by decide), fun h => by obtain ⟨j, hj, e⟩ := List.mem_iff_getElem.1 h; exact absurd (by rw [List.getD_eq_getElem?_getD, List.getElem?_eq_getElem hj]; exact e) (hi.2 j (by omega))⟩) rfl (fun _ h => Sb.own (by repeat' (first | with_reducible exact Sb.all | exact Sb.nil | (apply Sb.cons; focus (first | ((repeat (first | with_reducible exact Tk.here | with_reducible apply Tk.there)); done) | ((repeat (first | exact Tk.here | apply Tk.there)); done))) | apply Sb.drop)) h)
theorem sl_contains {w0 : World} {A : List HProp} {base : Option Addr} {xs : List Int} {c : Nat} {v : Int} [hR : Reads w0 A base (i64s xs)] (hl : xs.length ≤ 140737488351232) : Fun Tryz.prog w0 81 [.slice base xs.length c, .int .i64 v] A (Ret w0 (fun _ : Unit => True) (fun _ => .bool (decide (v ∈ xs))) (fun _ => A)) := by
  refine Fun.enter Tryz.func81 rfl Tryz.ntmps81 rfl ?_
  refine WC.seq <| WC.region <| sv (vaB rfl) <| WL.nil <| WX.thenN <| WC.seq <| WC.region <| sv (vmS rfl) <| sv (vmI rfl) <| clx (by repeat' (first | with_reducible exact Sb.all | exact Sb.nil | (apply Sb.cons; focus (first | ((repeat (first | with_reducible exact Tk.here | with_reducible apply Tk.there)); done) | ((repeat (first | exact Tk.here | apply Tk.there)); done))) | apply Sb.drop)) (sl_index hl) ct95 rfl fun r1 hr1 => ?_
  exact sv (vge rfl rfl) <| sv (vaB rfl) <| WL.nil <| WX.thenN <| WC.ret <| WX.ret1 rfl (()) (trivial) (bI hr1) (fun _ h => Sb.own (by repeat' (first | with_reducible exact Sb.all | exact Sb.nil | (apply Sb.cons; focus (first | ((repeat (first | with_reducible exact Tk.here | with_reducible apply Tk.there)); done) | ((repeat (first | exact Tk.here | apply Tk.there)); done))) | apply Sb.drop)) h)
/-- what was seen while numbers are gathered -/
structure NI where
  vk : List PK
  base : Option Addr
  cap : Nat
  xs : List Int
  last : Option Value
structure NR (l : List (PK × Sla UInt8)) (f : ByteArray) (i : NI) : Prop where
  nd : i.xs.Nodup
  sub : ∀ k ∈ i.vk, ∃ x ∈ l, x.1 = k
  mem : ∀ n, n ∈ i.xs ↔ ∃ k ∈ i.vk, k.flow = f ∧ k.num = n
theorem NR.new {l : List (PK × Sla UInt8)} {f : ByteArray} {last : Option Value} : NR l f ⟨[], none, 0, [], last⟩ :=
  ⟨List.nodup_nil, fun k hk => (by cases hk), fun n => ⟨fun h => (by cases h), fun h => (by obtain ⟨k, hk, _⟩ := h; cases hk)⟩⟩
theorem NR.more {l : List (PK × Sla UInt8)} {f : ByteArray} {vk : List PK} {base b2 : Option Addr} {cap c2 : Nat} {xs : List Int} {last l2 : Option Value} {x : PK × Sla UInt8} (h : NR l f ⟨vk, base, cap, xs, last⟩) (hx : x ∈ l) (hf : x.1.flow = f) (hn : x.1.num ∉ xs) : NR l f ⟨x.1 :: vk, b2, c2, xs ++ [x.1.num], l2⟩ := by
  refine ⟨?_, fun k hk => ?_, fun n => ?_⟩
  · show (xs ++ [x.1.num]).Nodup
    rw [List.nodup_append]
    exact ⟨h.nd, by simp, fun a ha b hb => by rw [List.mem_singleton] at hb; exact fun e => hn (hb ▸ e ▸ ha)⟩
  · rcases List.mem_cons.1 hk with rfl | hk
    · exact ⟨x, hx, rfl⟩
    · exact h.sub k hk
  · show n ∈ xs ++ [x.1.num] ↔ _
    rw [List.mem_append, List.mem_singleton]
    constructor
    · rintro (hm | rfl)
      · obtain ⟨k, hk, h1⟩ := (h.mem n).1 hm; exact ⟨k, List.mem_cons_of_mem _ hk, h1⟩
      · exact ⟨x.1, List.mem_cons_self, hf, rfl⟩
    · rintro ⟨k, hk, h1, h2⟩
      rcases List.mem_cons.1 hk with rfl | hk
      · exact .inr h2.symm
      · exact .inl ((h.mem n).2 ⟨k, hk, h1, h2⟩)
theorem NR.same {l : List (PK × Sla UInt8)} {f : ByteArray} {vk : List PK} {base : Option Addr} {cap : Nat} {xs : List Int} {last l2 : Option Value} {x : PK × Sla UInt8} (h : NR l f ⟨vk, base, cap, xs, last⟩) (hx : x ∈ l) (hn : ¬ (x.1.flow = f ∧ x.1.num ∉ xs)) : NR l f ⟨x.1 :: vk, base, cap, xs, l2⟩ := by
  refine ⟨h.nd, fun k hk => ?_, fun n => ?_⟩
  · rcases List.mem_cons.1 hk with rfl | hk
    · exact ⟨x, hx, rfl⟩
    · exact h.sub k hk
  · refine (h.mem n).trans ⟨fun ⟨k, hk, h1⟩ => ⟨k, List.mem_cons_of_mem _ hk, h1⟩, fun ⟨k, hk, h1, h2⟩ => ?_⟩
    rcases List.mem_cons.1 hk with rfl | hk
    · have : x.1.num ∈ xs := by
        by_cases hm : x.1.num ∈ xs
        · exact hm
        · exact absurd ⟨h1, hm⟩ hn
      obtain ⟨k, hk, h3⟩ := (h.mem _).1 this
      exact ⟨k, hk, h3.1, h3.2.trans h2⟩
    · exact ⟨k, hk, h1, h2⟩
theorem NR.len {d : VD} {mp mf : Nat} {fl : List (ByteArray × Int)} {l : List (PK × Sla UInt8)} {f : ByteArray} {i : NI} (h : NR l f i) (hv : VRep d ⟨mp, mf, l, fl⟩) (hc : Cnt d) : i.xs.length ≤ 1000000000 :=
  nodup_le 1000000000 i.xs h.nd fun n hn => by
    obtain ⟨k, hk, _, rfl⟩ := (h.mem n).1 hn
    obtain ⟨x, hx, rfl⟩ := h.sub k hk
    have := lookP_mem hv.nd hx
    rw [hv.look] at this
    exact hc x.1 (by rw [this]; rfl)
theorem NR.done {d : VD} {mp mf : Nat} {fl : List (ByteArray × Int)} {l : List (PK × Sla UInt8)} {f : ByteArray} {i : NI} (h : NR l f i) (hv : VRep d ⟨mp, mf, l, fl⟩) (hall : ∀ x ∈ l, x.1 ∈ i.vk) : NumsOf d f (sortI i.xs) := by
  refine ⟨lt_of_sorted (sortI_sorted _) ((sortI_perm _).nodup_iff.2 h.nd), fun n => ?_⟩
  rw [(sortI_perm i.xs).mem_iff, h.mem]
  constructor
  · rintro ⟨k, hk, h1, h2⟩
    obtain ⟨x, hx, rfl⟩ := h.sub k hk
    have := lookP_mem hv.nd hx
    rw [hv.look] at this
    exact ⟨x.1, h1, h2, by rw [this]; rfl⟩
  · rintro ⟨k, h1, h2, h3⟩
    obtain ⟨b, hb⟩ := Option.isSome_iff_exists.1 h3
    obtain ⟨j, x, hj, rfl, _⟩ := lookP_some ((hv.look k).trans hb)
    exact ⟨x.1, hall x (List.mem_of_getElem? hj), h1, h2⟩
theorem sl_sort {w0 : World} {R : List HProp} {base : Option Addr} {c : Nat} {xs : List Int} (hl : xs.length ≤ 1099511627776) :
    Fun Tryz.prog w0 82 [.slice base xs.length c] (row base c 1 3 (i64s xs) :: R) (Ret w0 (fun _ : Unit => True) (fun _ => .tuple #[]) (fun _ => row base c 1 3 (i64s (sortI xs)) :: R)) := sort_ints ly_sorti hl
theorem v_numbers {w0 : World} {A : List HProp} {v j : Nat} {dn : Bool} {d : VD} {f : ByteArray} (hc : Cnt d) :
    Fun Tryz.prog w0 52 [.pointer (some ⟨v, 0, none⟩), .string f] (pv v j dn d :: A) (Ret w0 (fun i : Option Addr × Nat × List Int => NumsOf d f i.2.2 ∧ i.2.2.length ≤ 1000000000) (fun i => .slice i.1 i.2.2.length i.2.1) (fun i => row i.1 i.2.1 1 3 (i64s i.2.2) :: pv v j dn d :: A)) := by
  refine Fun.ex (fun w h => pv_open h) ?_
  rintro ⟨mp, mf, l, fl⟩ hi
  dsimp only [vcl]
  refine Fun.enter Tryz.func52 rfl Tryz.ntmps52 rfl ?_
  refine WC.seq <| WC.region <| sv (vaS rfl) <| WL.nil <| WX.thenN <| WC.seq <| WC.seq <| WC.region <| sv (vmP rfl) <| sv (vpeqF Tryz.underlying33 rfl rfl) <| WL.nil <| WX.thenN <| ?_
  refine WC.ff rfl ?_
  refine WC.skip <| WX.thenN <| WC.seq <| WC.region <| sv (vaS rfl) <| WL.nil <| WX.thenN <| WC.seq <| WC.seq <| WC.region <| sv (vmP rfl) <| sv (vnil rfl) <| sv (vfldpz fl86f0 rfl) <| sv (vldc pl83 rfl) <| pm (fun _ h => Sb.own (by repeat' (first | with_reducible exact Sb.all | exact Sb.nil | (apply Sb.cons; focus (first | ((repeat (first | with_reducible exact Tk.here | with_reducible apply Tk.there)); done) | ((repeat (first | exact Tk.here | apply Tk.there)); done))) | apply Sb.drop)) h) <| rgmK Tryz.underlying83 rfl fun it3 =>?_
  refine WL.nil <| WX.thenN <| WC.block <| ?_
  refine WC.loop (ι := NI) (fun i => [(5, .slice i.base i.xs.length i.cap)]) [(1, .string _), (13, _)] (fun i => mrk KP mp (pents l) it3 (i.vk.map pkv) i.last :: row i.base i.cap 1 3 (i64s i.xs) :: cel v [.map (some mp), .map (some mf), .pointer (some ⟨j, 0, none⟩), .bool dn] 86 :: Sl.mp .string mf (fents fl) :: rows 5 (l.map Prod.snd) :: A) (fun i => NR l f i) (fun i => todo i.vk l) (⟨[], none, 0, [], none⟩) (NR.new) ⟨rfl, trivial⟩ ⟨rfl, rfl, trivial⟩ (fun w h => by have h2 := h.intro_row_nil (s := 1) (e := 3); exact Sb.own (by repeat' (first | with_reducible exact Sb.all | exact Sb.nil | (apply Sb.cons; focus (first | ((repeat (first | with_reducible exact Tk.here | with_reducible apply Tk.there)); done) | ((repeat (first | exact Tk.here | apply Tk.there)); done))) | apply Sb.drop)) h2) ?_
  rintro ⟨vk, ob, oc, xs, last⟩ hnr ρh
  have hxl := hnr.len hi hc
  dsimp only at hxl ⊢
  refine WC.seq <| WC.region <| nxmK rfl (fun k4 v4 hk4 hv4 => ?_) (fun hall4 => ?_)
  ·
    obtain ⟨x, hx, he⟩ := List.mem_map.1 hk4
    cases he
    have hxv : x.1 ∉ vk := fun h => hv4 (List.mem_map.2 ⟨x.1, h, rfl⟩)
    refine sv (vex rfl rfl) <| WL.nil <| WX.thenN <| WC.seq <| ?_
    refine WC.tt rfl ?_
    refine WC.skip <| WX.thenN <| WC.block <| WC.seq <| WC.region <| sv (venK rfl hk4) <| sv (vex rfl rfl) <| alz (cs := [.string ByteArray.empty, .int .i64 0, .int .i64 0, .int .i64 0]) zt117 (by rfl) fun b6 => stAp sz117 rfl rfl rfl (by intro v hv; simp only [List.mem_cons, List.not_mem_nil, or_false] at hv; rcases hv with rfl | rfl | rfl | rfl <;> rfl) rfl <| WL.nil <| WX.thenN <| ?_
    refine WC.cutS [(28, .bool (decide (x.1.flow = f ∧ x.1.num ∉ xs)))] [(1, .string _), (5, .slice _ _ _), (6, _), (13, _)] ⟨rfl, rfl, rfl, rfl, trivial⟩ ?_ fun ρh => ?_
    · -- vault.go:187
      refine WC.region <| sv (vfldpz fl117f0 rfl) <| sv (vldc pl9 rfl) <| sv (vmT rfl) <| svs (veqs rfl rfl) (fun q1 => ?_) (fun q1 => ?_)
      ·
        refine sv (vmB rfl) <| svg rfl (vmS rfl) <| svg rfl (vfldp fl117f1 rfl) <| svg rfl (vldc pl3 rfl) <| gy rfl <| clx (by repeat' (first | with_reducible exact Sb.all | exact Sb.nil | (apply Sb.cons; focus (first | ((repeat (first | with_reducible exact Tk.here | with_reducible apply Tk.there)); done) | ((repeat (first | exact Tk.here | apply Tk.there)); done))) | apply Sb.drop)) (sl_contains (by omega)) ct81 rfl fun r10 hr10 => ?_
        exact svg rfl (vnot rfl) <| sv (vpkt rfl) <| WL.nil <| WX.mid () trivial ⟨bB (by simp [q1]), trivial⟩ ⟨rfl, rfl, rfl, rfl, trivial⟩ (fun _ h => Sb.own (by repeat' (first | with_reducible exact Sb.all | exact Sb.nil | (apply Sb.cons; focus (first | ((repeat (first | with_reducible exact Tk.here | with_reducible apply Tk.there)); done) | ((repeat (first | exact Tk.here | apply Tk.there)); done))) | apply Sb.drop)) h)
      ·
        exact sv (vmB rfl) <| sng rfl <| sng rfl <| sng rfl <| sng rfl <| sng rfl <| sv (vpkf rfl) <| WL.nil <| WX.mid () trivial ⟨bF (by first | omega | simp_all | grind), trivial⟩ ⟨rfl, rfl, rfl, rfl, trivial⟩ (fun _ h => Sb.own (by repeat' (first | with_reducible exact Sb.all | exact Sb.nil | (apply Sb.cons; focus (first | ((repeat (first | with_reducible exact Tk.here | with_reducible apply Tk.there)); done) | ((repeat (first | exact Tk.here | apply Tk.there)); done))) | apply Sb.drop)) h)
    refine WC.ite rfl (fun h3 => ?_) (fun h3 => ?_)
    · -- then
      refine WC.region <| sv (vmS rfl) <| sv (vfldp fl117f1 rfl) <| sv (vldc pl3 rfl) <| pm (fun _ h => Sb.own (by repeat' (first | with_reducible exact Sb.all | exact Sb.nil | (apply Sb.cons; focus (first | ((repeat (first | with_reducible exact Tk.here | with_reducible apply Tk.there)); done) | ((repeat (first | exact Tk.here | apply Tk.there)); done))) | apply Sb.drop)) h) <| ap1 (v := .int _ _) (vs := i64s xs) Tryz.underlying105 zt3 rfl (fun _ => rfl) (fun _ => rfl) rfl rfl rfl (by rw [i64s_length]) (by simp only [maxLen]; omega) (by omega) fun _ base13 c13 hc13 => ?_
      exact sv (vaS rfl) <| WL.nil <| WX.blockN <| WX.again (⟨x.1 :: vk, base13, c13, xs ++ [x.1.num], some (pkv x.1)⟩) (hnr.more hx h3.1 h3.2) (todo_visit hx hxv) ⟨(by show Value.slice base13 (xs.length + 1) c13 = .slice base13 (xs ++ [x.1.num]).length c13; rw [List.length_append]; rfl), trivial⟩ ⟨rfl, rfl, trivial⟩ (fun w h => by rw [show i64s (xs ++ [x.1.num]) = i64s xs ++ [.int .i64 x.1.num] by simp [i64s]]; exact Sb.own (by repeat' (first | with_reducible exact Sb.all | exact Sb.nil | (apply Sb.cons; focus (first | ((repeat (first | with_reducible exact Tk.here | with_reducible apply Tk.there)); done) | ((repeat (first | exact Tk.here | apply Tk.there)); done))) | apply Sb.drop)) h)
    · -- else
      exact WC.skip <| WX.blockN <| WX.again (⟨x.1 :: vk, ob, oc, xs, some (pkv x.1)⟩) (hnr.same hx h3) (todo_visit hx hxv) ⟨rfl, trivial⟩ ⟨rfl, rfl, trivial⟩ (fun _ h => Sb.own (by repeat' (first | with_reducible exact Sb.all | exact Sb.nil | (apply Sb.cons; focus (first | ((repeat (first | with_reducible exact Tk.here | with_reducible apply Tk.there)); done) | ((repeat (first | exact Tk.here | apply Tk.there)); done))) | apply Sb.drop)) h)
  ·
    have hall : ∀ x ∈ l, x.1 ∈ vk := fun x hx => by
      obtain ⟨k, hk, e⟩ := List.mem_map.1 (hall4 _ (List.mem_map.2 ⟨x, hx, rfl⟩))
      rw [← pkv_inj e]; exact hk
    refine sv (vex rfl rfl) <| WL.nil <| WX.thenN <| WC.seq <| ?_
    refine WC.ff rfl ?_
    refine WC.exit <| WX.thenE <| WX.thenE <| WX.blockH <| WX.thenN <| WC.seq <| WC.region <| sv (vmS rfl) <| clx (by repeat' (first | with_reducible exact Sb.all | exact Sb.nil | (apply Sb.cons; focus (first | ((repeat (first | with_reducible exact Tk.here | with_reducible apply Tk.there)); done) | ((repeat (first | exact Tk.here | apply Tk.there)); done))) | apply Sb.drop)) (sl_sort (by omega)) ct82 rfl fun r14 hr14 => ?_
    exact WL.nil <| WX.thenN <| WC.seq <| WC.region <| sv (vmS rfl) <| sv (vaS rfl) <| WL.nil <| WX.thenN <| WC.ret <| WX.ret1 rfl ((ob, oc, sortI xs)) (⟨hnr.done hi hall, by rw [(sortI_perm xs).length_eq]; exact hxl⟩) (by show Value.slice ob xs.length oc = .slice ob (sortI xs).length oc; rw [(sortI_perm xs).length_eq]) (fun w h => by have h2 := (Own.sp1 (X1 := mrk KP mp (pents l) it3 (vk.map pkv) last) (by repeat' (first | exact Spl.nil | (apply Spl.cons; focus (first | ((repeat (first | with_reducible exact Tk.here | with_reducible apply Tk.there)); done) | ((repeat (first | exact Tk.here | apply Tk.there)); done))))) h).mrk_mpk; have h3 := pv_mk (v := v) (j := j) (down := dn) hi (Own.sp4 (by repeat' (first | exact Spl.nil | (apply Spl.cons; focus (first | ((repeat (first | with_reducible exact Tk.here | with_reducible apply Tk.there)); done) | ((repeat (first | exact Tk.here | apply Tk.there)); done))))) h2); exact Sb.own (by repeat' (first | with_reducible exact Sb.all | exact Sb.nil | (apply Sb.cons; focus (first | ((repeat (first | with_reducible exact Tk.here | with_reducible apply Tk.there)); done) | ((repeat (first | exact Tk.here | apply Tk.there)); done))) | apply Sb.drop)) h3)
theorem v_numbers_c {w0 : World} {A : List HProp} {v dk m : Nat} {d : VD} {f : ByteArray} (hc : Cnt d) :
    Fun Tryz.prog w0 52 [.pointer (some ⟨v, 0, none⟩), .string f] (vcm v dk d m :: A) (Ret w0 (fun i : Option Addr × Nat × List Int => NumsOf d f i.2.2 ∧ i.2.2.length ≤ 1000000000) (fun i => .slice i.1 i.2.2.length i.2.1) (fun i => row i.1 i.2.1 1 3 (i64s i.2.2) :: vcm v dk d m :: A)) := by
  refine Fun.ex (fun w h => vcm_open h) ?_
  rintro ⟨j, s⟩ hi
  have hi' : Vc ⟨s.st, s.n, false⟩ m := by have := hi; obtain ⟨st, n, sick⟩ := s; obtain rfl : sick = false := hi.sick; exact this
  exact (v_numbers hc).mono fun e w ⟨i, h1, he, hO⟩ => ⟨i, h1, he, (vcm_mk hi' (hO.ix [1, 2, 3, 0])).pk1⟩
end Go.Proofs.YthljpljbpbkkcaaGreatDoor
end
section
set_option linter.unusedVariables false
set_option linter.unusedSimpArgs false
set_option maxRecDepth 4000
namespace Go.Proofs.YthljpljbpbkkcaaGreatDoor
open Go.Sl Go.RowKit Go.Pack Go.Vault Go.Journal

def hasP (d : VD) (f : ByteArray) (n kind : Int) (i : Nat) : Bool := (d.parts ⟨f, n, kind, i⟩).isSome
def wholeP (d : VD) (f : ByteArray) (n parts : Int) : Bool := decide (1 ≤ parts ∧ parts ≤ 16) && ((List.range parts.toNat).all (hasP d f n 1) && (List.range 16).all (hasP d f n 2))
theorem range_snoc {p : Nat → Bool} {i : Nat} (h : (List.range i).all p = true) (hi : p i = true) : (List.range (i + 1)).all p = true := by
  rw [List.range_succ, List.all_append, h, Bool.true_and]
  simp [hi]
theorem range_no {p : Nat → Bool} {n i : Nat} (hi : i < n) (h : p i = false) : (List.range n).all p = false :=
  List.all_eq_false.2 ⟨i, List.mem_range.2 hi, by rw [h]; decide⟩
theorem pkOkN {f : ByteArray} {n kind : Int} {i : Nat} (hf : f.size ≤ 140737488351232) (hn : -9223372036854775808 ≤ n ∧ n ≤ 9223372036854775807) (hk : kind = 1 ∨ kind = 2) (hi : i ≤ 16) : PkOk ⟨f, n, kind, i⟩ :=
  ⟨hf, hn, by show _ ≤ kind ∧ kind ≤ _; omega, by show _ ≤ (i : Int) ∧ (i : Int) ≤ _; omega⟩
theorem v_has {w0 : World} {A : List HProp} {v j t1 t2 t3 : Nat} {dn : Bool} {d : VD} {f : ByteArray} {n pk pn : Int} (hk : PkOk ⟨f, n, pk, pn⟩) [h0 : CelAt A t1 [.pointer (some ⟨v, 0, none⟩)] 33] [h1 : CelAt A t2 [.string f] 9] [h2 : CelAt A t3 [.int .i64 n] 3] :
    Fun Tryz.prog w0 80 [.agg #[.int .i64 pk, .int .i64 pn], .pointer (some ⟨t1, 0, none⟩), .pointer (some ⟨t2, 0, none⟩), .pointer (some ⟨t3, 0, none⟩)] (pv v j dn d :: A) (Ret w0 (fun _ : Unit => True) (fun _ => .bool (d.parts ⟨f, n, pk, pn⟩).isSome) (fun _ => pv v j dn d :: A)) := by
  refine Fun.ex (fun w h => pv_open h) ?_
  rintro ⟨mp, mf, l, fl⟩ hi
  obtain ⟨gb, gn, gc, hgv⟩ := hi.get ⟨f, n, pk, pn⟩
  dsimp only [vcl] at hgv ⊢
  refine Fun.enter Tryz.func80 rfl Tryz.ntmps80 rfl ?_
  exact WC.seq <| WC.region <| bxc (v := .agg _) (cs := [.int _ _, .int _ _]) rfl rfl fun b1 => sv (vaB rfl) <| WL.nil <| WX.thenN <| WC.seq <| WC.draws rfl (by kernel_rfl) <| qv (vldc pl33 rfl) <| qv (vnil rfl) <| qv (vfldpz fl86f0 rfl) <| qv (vldc pl83 rfl) <| qv (vldc pl9 rfl) <| qv (vldc pl3 rfl) <| qv (vldac ag46 sz46 rfl rfl (by decide)) <| qv (vbd (ps := [(0, .string _), (1, .int _ _), (2, .agg _)]) (cs := pkl ⟨f, n, pk, pn⟩) bt117 zt117 rfl (by rfl)) <| qv (vlk2K Tryz.underlying83 place_law zt23 rfl rfl (kp_ok hk) hgv) <| qv vmv <| qv (vex rfl rfl) <| qv (vex rfl rfl) <| qv (vaS rfl) <| qv (vaB rfl) <| WQ.nil <| WX.thenN <| WC.seq <| WC.region <| sv (vmB rfl) <| sv (vaB rfl) <| WL.nil <| WX.thenN <| WC.ret <| WX.ret1 rfl (()) (trivial) rfl (fun w h => by have h2 := pv_mk (v := v) (j := j) (down := dn) hi (Own.sp4 (by repeat' (first | exact Spl.nil | (apply Spl.cons; focus (first | ((repeat (first | with_reducible exact Tk.here | with_reducible apply Tk.there)); done) | ((repeat (first | exact Tk.here | apply Tk.there)); done))))) h); exact Sb.own (by repeat' (first | with_reducible exact Sb.all | exact Sb.nil | (apply Sb.cons; focus (first | ((repeat (first | with_reducible exact Tk.here | with_reducible apply Tk.there)); done) | ((repeat (first | exact Tk.here | apply Tk.there)); done))) | apply Sb.drop)) h2)
theorem v_whole {w0 : World} {A : List HProp} {v j : Nat} {dn : Bool} {d : VD} {f : ByteArray} {n parts : Int} (hf : f.size ≤ 140737488351232) (hn : -9223372036854775808 ≤ n ∧ n ≤ 9223372036854775807) :
    Fun Tryz.prog w0 50 [.pointer (some ⟨v, 0, none⟩), .string f, .int .i64 n, .int .i64 parts] (pv v j dn d :: A) (Ret w0 (fun _ : Unit => True) (fun _ => .bool (wholeP d f n parts)) (fun _ => pv v j dn d :: A)) := by
  refine Fun.enter Tryz.func50 rfl Tryz.ntmps50 rfl ?_
  refine WC.seq <| WC.region <| bxc (v := .pointer _) (cs := [.pointer _]) rfl rfl fun b1 => bxc (v := .string _) (cs := [.string _]) rfl rfl fun b2 => bxc (v := .int _ _) (cs := [.int _ _]) rfl rfl fun b3 => sv (vaB rfl) <| WL.nil <| WX.thenN <| WC.seq <| ?_
  refine WC.cutS [(21, .bool (decide (¬ (1 ≤ parts ∧ parts ≤ 16))))] [(3, .int _ _), (4, _), (5, _), (6, _)] ⟨rfl, rfl, rfl, rfl, trivial⟩ ?_ fun ρh => ?_
  · -- vault.go:160
    refine WC.region <| sv (vldc pl33 rfl) <| sv (vpeqF Tryz.underlying33 rfl rfl) <| sv (vmB rfl) <| svg rfl (vmI rfl) <| svsg rfl (vlt rfl rfl) (fun q1 => ?_) (fun q1 => ?_)
    ·
      exact sv (vpkf rfl) <| sv (vmB rfl) <| sng rfl <| sng rfl <| sv (vpkt rfl) <| WL.nil <| WX.mid () trivial ⟨bT (by first | omega | simp_all | grind), trivial⟩ ⟨rfl, rfl, rfl, rfl, trivial⟩ (fun _ h => Sb.own (by repeat' (first | with_reducible exact Sb.all | exact Sb.nil | (apply Sb.cons; focus (first | ((repeat (first | with_reducible exact Tk.here | with_reducible apply Tk.there)); done) | ((repeat (first | exact Tk.here | apply Tk.there)); done))) | apply Sb.drop)) h)
    ·
      exact sv (vpkf rfl) <| sv (vmB rfl) <| svg rfl (vmI rfl) <| svg rfl (vgt rfl rfl) <| sv (vpkf rfl) <| WL.nil <| WX.mid () trivial ⟨bI (by first | omega | simp_all | grind), trivial⟩ ⟨rfl, rfl, rfl, rfl, trivial⟩ (fun _ h => Sb.own (by repeat' (first | with_reducible exact Sb.all | exact Sb.nil | (apply Sb.cons; focus (first | ((repeat (first | with_reducible exact Tk.here | with_reducible apply Tk.there)); done) | ((repeat (first | exact Tk.here | apply Tk.there)); done))) | apply Sb.drop)) h)
  refine WC.ite rfl (fun h1 => ?_) (fun h1 => ?_)
  · -- then
    exact WC.seq <| WC.region <| sv (vaB rfl) <| WL.nil <| WX.thenN <| WC.ret <| WX.thenR <| WX.ret1 rfl (()) (trivial) (by unfold wholeP; rw [decide_eq_false h1]; rfl) (fun _ h => Sb.own (by repeat' (first | with_reducible exact Sb.all | exact Sb.nil | (apply Sb.cons; focus (first | ((repeat (first | with_reducible exact Tk.here | with_reducible apply Tk.there)); done) | ((repeat (first | exact Tk.here | apply Tk.there)); done))) | apply Sb.drop)) h)
  · -- else
    have hp : 1 ≤ parts ∧ parts ≤ 16 := Decidable.not_not.1 h1
    refine WC.skip <| WX.thenN <| WC.seq <| WC.region <| sv (vfn rfl) <| sv (vaF rfl) <| WL.nil <| WX.thenN <| WC.seq <| WC.seq <| WC.region <| sv (vmI rfl) <| sv (vmI rfl) <| WL.nil <| WX.thenN <| WC.block <| ?_
    refine WC.loopS (ι := Nat) (fun i => [(24, .int .i64 i)]) [(9, .func _ _ _), (23, .int _ _)] (fun i => i ≤ parts ∧ (List.range i).all (hasP d f n 1) = true) (fun i => parts.toNat - i) (0) (⟨by omega, rfl⟩) ⟨rfl, trivial⟩ ⟨rfl, rfl, trivial⟩ ?_
    intro i hi ρh
    refine WC.seq <| WC.region <| sv (vlt rfl rfl) <| WL.nil <| WX.thenN <| WC.seq <| ?_
    refine WC.ite rfl (fun h2 => ?_) (fun h2 => ?_)
    · -- then
      refine WC.skip <| WX.thenN <| WC.seq <| WC.block <| WC.seq <| WC.region <| sv (vmI rfl) <| sv (vaI rfl) <| WL.nil <| WX.thenN <| WC.seq <| WC.region <| sv (vmF rfl) <| sv (vmI rfl) <| sv (vbd (ps := [(0, (.int .i64 1)), (1, .int _ _)]) (cs := [_, _]) bt46 zt46 rfl (by rfl)) <| clvx (by repeat' (first | with_reducible exact Sb.all | exact Sb.nil | (apply Sb.cons; focus (first | ((repeat (first | with_reducible exact Tk.here | with_reducible apply Tk.there)); done) | ((repeat (first | exact Tk.here | apply Tk.there)); done))) | apply Sb.drop)) (v_has (f := f) (n := n) (pk := 1) (pn := i) (pkOkN hf hn (.inl rfl) (by omega))) ct80 rfl rfl fun r7 hr7 => ?_
      refine sv (vnot rfl) <| WL.nil <| WX.thenN <| ?_
      refine WC.iteb rfl (fun h3 => ?_) (fun h3 => ?_)
      · -- then
        exact WC.seq <| WC.region <| sv (vaB rfl) <| WL.nil <| WX.thenN <| WC.ret <| WX.blockR <| WX.thenR <| WX.thenR <| WX.blockR <| WX.thenR <| WX.ret1 rfl (()) (trivial) (show Value.bool false = _ from by unfold wholeP; rw [range_no (p := hasP d f n 1) (i := i) (by omega) (by unfold hasP; simpa using h3)]; simp) (fun _ h => Sb.own (by repeat' (first | with_reducible exact Sb.all | exact Sb.nil | (apply Sb.cons; focus (first | ((repeat (first | with_reducible exact Tk.here | with_reducible apply Tk.there)); done) | ((repeat (first | exact Tk.here | apply Tk.there)); done))) | apply Sb.drop)) h)
      · -- else
        exact WC.skip <| WX.blockN <| WX.thenN <| WC.region <| sv (vadd rfl rfl (by omega)) <| sv (vmI rfl) <| WL.nil <| WX.again (i + 1) (⟨by omega, range_snoc hi.2 (by unfold hasP; simpa using h3)⟩) (by omega) ⟨rfl, trivial⟩ ⟨rfl, rfl, trivial⟩ (fun _ h => Sb.own (by repeat' (first | with_reducible exact Sb.all | exact Sb.nil | (apply Sb.cons; focus (first | ((repeat (first | with_reducible exact Tk.here | with_reducible apply Tk.there)); done) | ((repeat (first | exact Tk.here | apply Tk.there)); done))) | apply Sb.drop)) h)
    · -- else
      refine WC.exit <| WX.thenE <| WX.thenE <| WX.blockH <| WX.thenN <| WC.seq <| WC.seq <| WC.region <| sv (vmI rfl) <| WL.nil <| WX.thenN <| WC.block <| ?_
      refine WC.loopS (ι := Nat) (fun k => [(33, .int .i64 k)]) [(9, .func _ _ _)] (fun k => (k : Int) ≤ 16 ∧ (List.range k).all (hasP d f n 2) = true) (fun k => 16 - k) (0) (⟨by omega, rfl⟩) ⟨rfl, trivial⟩ ⟨rfl, trivial⟩ ?_
      intro k hk ρh
      refine WC.seq <| WC.region <| sv (vlt rfl rfl) <| WL.nil <| WX.thenN <| WC.seq <| ?_
      refine WC.ite rfl (fun h4 => ?_) (fun h4 => ?_)
      · -- then
        refine WC.skip <| WX.thenN <| WC.seq <| WC.block <| WC.seq <| WC.region <| sv (vmI rfl) <| sv (vaI rfl) <| WL.nil <| WX.thenN <| WC.seq <| WC.region <| sv (vmF rfl) <| sv (vmI rfl) <| sv (vbd (ps := [(0, (.int .i64 2)), (1, .int _ _)]) (cs := [_, _]) bt46 zt46 rfl (by rfl)) <| clvx (by repeat' (first | with_reducible exact Sb.all | exact Sb.nil | (apply Sb.cons; focus (first | ((repeat (first | with_reducible exact Tk.here | with_reducible apply Tk.there)); done) | ((repeat (first | exact Tk.here | apply Tk.there)); done))) | apply Sb.drop)) (v_has (f := f) (n := n) (pk := 2) (pn := k) (pkOkN hf hn (.inr rfl) (by omega))) ct80 rfl rfl fun r10 hr10 => ?_
        refine sv (vnot rfl) <| WL.nil <| WX.thenN <| ?_
        refine WC.iteb rfl (fun h5 => ?_) (fun h5 => ?_)
        · -- then
          exact WC.seq <| WC.region <| sv (vaB rfl) <| WL.nil <| WX.thenN <| WC.ret <| WX.blockR <| WX.thenR <| WX.thenR <| WX.blockR <| WX.thenR <| WX.ret1 rfl (()) (trivial) (show Value.bool false = _ from by unfold wholeP; rw [range_no (p := hasP d f n 2) (n := 16) (i := k) (by omega) (by unfold hasP; simpa using h5)]; simp) (fun _ h => Sb.own (by repeat' (first | with_reducible exact Sb.all | exact Sb.nil | (apply Sb.cons; focus (first | ((repeat (first | with_reducible exact Tk.here | with_reducible apply Tk.there)); done) | ((repeat (first | exact Tk.here | apply Tk.there)); done))) | apply Sb.drop)) h)
        · -- else
          exact WC.skip <| WX.blockN <| WX.thenN <| WC.region <| sv (vadd rfl rfl (by omega)) <| sv (vmI rfl) <| WL.nil <| WX.again (k + 1) (⟨by omega, range_snoc hk.2 (by unfold hasP; simpa using h5)⟩) (by omega) ⟨rfl, trivial⟩ ⟨rfl, trivial⟩ (fun _ h => Sb.own (by repeat' (first | with_reducible exact Sb.all | exact Sb.nil | (apply Sb.cons; focus (first | ((repeat (first | with_reducible exact Tk.here | with_reducible apply Tk.there)); done) | ((repeat (first | exact Tk.here | apply Tk.there)); done))) | apply Sb.drop)) h)
      · -- else
        have e1 : i = parts.toNat := by omega
        have e2 : k = 16 := by omega
        exact WC.exit <| WX.thenE <| WX.thenE <| WX.blockH <| WX.thenN <| WC.seq <| WC.region <| sv (vaB rfl) <| WL.nil <| WX.thenN <| WC.ret <| WX.ret1 rfl (()) (trivial) (show Value.bool true = _ from by { unfold wholeP; rw [decide_eq_true hp, ← e1, hi.2, ← e2, hk.2]; rfl }) (fun _ h => Sb.own (by repeat' (first | with_reducible exact Sb.all | exact Sb.nil | (apply Sb.cons; focus (first | ((repeat (first | with_reducible exact Tk.here | with_reducible apply Tk.there)); done) | ((repeat (first | exact Tk.here | apply Tk.there)); done))) | apply Sb.drop)) h)
theorem v_whole_c {w0 : World} {A : List HProp} {v dk m : Nat} {d : VD} {f : ByteArray} {n parts : Int} (hf : f.size ≤ 140737488351232) (hn : -9223372036854775808 ≤ n ∧ n ≤ 9223372036854775807) :
    Fun Tryz.prog w0 50 [.pointer (some ⟨v, 0, none⟩), .string f, .int .i64 n, .int .i64 parts] (vcm v dk d m :: A) (Ret w0 (fun _ : Unit => True) (fun _ => .bool (wholeP d f n parts)) (fun _ => vcm v dk d m :: A)) := by
  refine Fun.ex (fun w h => vcm_open h) ?_
  rintro ⟨j, s⟩ hi
  have hi' : Vc ⟨s.st, s.n, false⟩ m := by have := hi; obtain ⟨st, n, sick⟩ := s; obtain rfl : sick = false := hi.sick; exact this
  exact (v_whole hf hn).mono fun e w ⟨i, _, he, hO⟩ => ⟨(), trivial, he, vcm_mk hi' hO⟩
end Go.Proofs.YthljpljbpbkkcaaGreatDoor
end
section
set_option linter.unusedVariables false
set_option linter.unusedSimpArgs false
set_option maxRecDepth 4000
namespace Go.Proofs.YthljpljbpbkkcaaGreatDoor
open Go.Sl Go.RowKit Go.Pack Go.Vault Go.Journal

def doneR (kind : Int) (k : PK) (b : List UInt8) (d : VD) : VD := if kind = 1 then putD d k b else dropD d k.flow k.num
/-- a call of the document: what is there then, and the answer -/
def callS (kind : Int) (k : PK) (b : List UInt8) (d : VD) (s : JV) : (VD × JV) × Int := actS (whyR d kind k) (recC kind k b) (doneR kind k b d) d s
theorem callS_put {k : PK} {b : List UInt8} {d : VD} {s : JV} : callS 1 k b d s = putS k b d s := by
  unfold callS putS whyR recC doneR recPut
  rw [if_pos rfl, if_pos rfl, if_pos rfl]
theorem callS_drop {k : PK} {b : List UInt8} {d : VD} {s : JV} : callS 2 k b d s = dropS k.flow k.num d s := by
  unfold callS dropS whyR recC doneR recDrop
  rw [if_neg (by decide), if_neg (by decide), if_neg (by decide)]
theorem ref_done {w0 : World} {A : List HProp} {r w N : Nat} {d : VD} {kind n pk pn : Int} {f : ByteArray} {b : Sla UInt8} (hkind : kind = 1 ∨ (kind = 2 ∧ pk = 0 ∧ pn = 0 ∧ b = ⟨none, [], 0⟩)) (hw : kind = 1 → d.parts ⟨f, n, pk, pn⟩ = none) (hk : PkOk ⟨f, n, pk, pn⟩) (hb : b.xs.length ≤ 1048576) (hN : N ≤ 1099511627776) [hRb : Reads w0 A b.base (u8s b.xs)] :
    Fun Tryz.prog w0 21 [.pointer (some ⟨r, 0, none⟩), .agg (vc6 kind f n pk pn b).toArray] (rv r w N d :: A) (Ret w0 (fun _ : Unit => True) (fun _ => .tuple #[]) (fun _ => rv r w (N + 1) (doneR kind ⟨f, n, pk, pn⟩ b.xs d) :: A)) := by
  unfold doneR
  rcases hkind with rfl | ⟨rfl, rfl, rfl, rfl⟩
  · rw [if_pos rfl]; exact ref_done_put (k := ⟨f, n, pk, pn⟩) hk (hw rfl) hb hN
  · rw [if_neg (by decide)]; exact ref_done_drop hk.flow hN
theorem whyPut_none {d : VD} {k : PK} (h : (whyPut d k).2 = true) : d.parts k = none := by
  unfold whyPut at h
  split at h
  · cases h
  · split at h
    · cases h
    · split at h
      · cases h
      · simpa using h
theorem recC_len {kind : Int} {k : PK} {b : List UInt8} (hkind : kind = 1 ∨ kind = 2) (hk : PkOk k) (hf : k.flow.size ≤ 4096) (hb : b.length ≤ 4096) : (recC kind k b).length ≤ 8900 := by
  have l0 := num_len (x := kind) (by omega)
  have l1 := num_len (x := k.num) hk.num
  have l2 := num_len (x := k.kind) hk.kind
  have l3 := num_len (x := k.n) hk.n
  have hfs : k.flow.data.toList.length = k.flow.size := rfl
  have l4 := text_len k.flow.data.toList (by omega)
  have l5 := text_len b (by omega)
  unfold recC
  split <;> simp only [List.length_append] <;> omega
theorem ref_do {w0 : World} {A : List HProp} {r w rd N M : Nat} {d : VD} {s : JV} {kind n pk pn : Int} {f : ByteArray} {b : Sla UInt8} (hkind : kind = 1 ∨ (kind = 2 ∧ pk = 0 ∧ pn = 0 ∧ b = ⟨none, [], 0⟩)) (hk : PkOk ⟨f, n, pk, pn⟩) (hf : f.size ≤ 4096) (hb : b.xs.length ≤ 4096) (hN : N ≤ 134217728) (hM : M ≤ 134217728) (hd : 0 ≤ s.st.deeds ∧ s.st.deeds + 2 ≤ 9223372036854775807) (hn : 0 ≤ s.n ∧ s.n + 1 ≤ 9223372036854775807) [hRb : Reads w0 A b.base (u8s b.xs)] :
    Fun Tryz.prog w0 22 [.pointer (some ⟨r, 0, none⟩), .agg (vc6 kind f n pk pn b).toArray] (rv r w N d :: cel w (wcells rd vnm s.n s.sick) 100 :: rdisk rd M s.st :: A)
      (Ret w0 (fun _ : Unit => True) (fun _ => .int .i64 (callS kind ⟨f, n, pk, pn⟩ b.xs d s).2) (fun _ => rv r w (N + 1) (callS kind ⟨f, n, pk, pn⟩ b.xs d s).1.1 :: cel w (wcells rd vnm (callS kind ⟨f, n, pk, pn⟩ b.xs d s).1.2.n (callS kind ⟨f, n, pk, pn⟩ b.xs d s).1.2.sick) 100 :: rdisk rd (M + 1) (callS kind ⟨f, n, pk, pn⟩ b.xs d s).1.2.st :: A)) := by
  have hkind2 : kind = 1 ∨ kind = 2 := by rcases hkind with h | h; exact .inl h; exact .inr h.1
  have hrl := recC_len (k := ⟨f, n, pk, pn⟩) (b := b.xs) hkind2 hk hf hb
  obtain ⟨st, nn, sick⟩ := s
  obtain ⟨rec, hrec⟩ : ∃ rec, rec = recC kind ⟨f, n, pk, pn⟩ b.xs := ⟨_, rfl⟩
  rw [← hrec] at hrl
  obtain ⟨e, he⟩ : ∃ e, e = (addP vnm rec st).2 := ⟨_, rfl⟩
  obtain ⟨st2, hst2⟩ : ∃ st2, st2 = (addP vnm rec st).1 := ⟨_, rfl⟩
  dsimp only at hd hn ⊢
  have hadd : ∀ {B : List HProp} {bb : Option Addr} {cc : Nat}, sick = false → RdC w0 B bb (u8s rec) → Fun Tryz.prog w0 48 [.pointer (some ⟨w, 0, none⟩), .slice bb rec.length cc] (cel w (wcells rd vnm nn sick) 100 :: rdisk rd M st :: B)
      (Ret w0 (fun _ : Unit => True) (fun _ => .int .i64 e) (fun _ => cel w (wcells rd vnm (if e = 0 then nn + 1 else nn) (decide (e = 20))) 100 :: rdisk rd (M + 1) st2 :: B)) := fun hs h => by
    subst hs; rw [he, hst2]; exact ref_jadd_ok (by omega) h rfl (by omega) hd hn
  have hcall : callS kind ⟨f, n, pk, pn⟩ b.xs d ⟨st, nn, sick⟩ = actS (whyR d kind ⟨f, n, pk, pn⟩) rec (doneR kind ⟨f, n, pk, pn⟩ b.xs d) d ⟨st, nn, sick⟩ := by rw [hrec]; rfl
  obtain ⟨wy, hwy⟩ : ∃ wy, wy = whyR d kind ⟨f, n, pk, pn⟩ := ⟨_, rfl⟩
  rw [hcall, ← hwy]
  refine Fun.ex (fun w h => rv_open h) ?_
  rintro ⟨l, fl, lb, lc, fb, fc⟩ hi
  dsimp only [rvc]
  refine Fun.enter Tryz.func22 rfl Tryz.ntmps22 rfl ?_
  refine WC.seq <| WC.region <| bxc (v := .agg _) (cs := [.int _ _, .string _, .int _ _, .int _ _, .int _ _, .slice _ _ _]) rfl rfl fun b1 => sv (vaI rfl) <| WL.nil <| WX.thenN <| WC.seq <| WC.region <| sv (vmP rfl) <| sv (vldac ag57 sz57 rfl rfl (by decide)) <| clx (by repeat' (first | with_reducible exact Sb.all | exact Sb.nil | (apply Sb.cons; focus (first | ((repeat (first | with_reducible exact Tk.here | with_reducible apply Tk.there)); done) | ((repeat (first | exact Tk.here | apply Tk.there)); done))) | apply Sb.drop)) (ref_why hi (by omega) hkind2 (by omega)) ct18 rfl fun r3 hr3 => ?_
  rw [← hwy]
  refine sv vmv <| sv (vex rfl rfl) <| sv (vex rfl rfl) <| sv (vaI rfl) <| sv (vaB rfl) <| WL.nil <| WX.thenN <| WC.seq <| WC.seq <| WC.region <| sv (vmI rfl) <| sv (vne rfl rfl) <| WL.nil <| WX.thenN <| ?_
  refine WC.ite rfl (fun h1 => ?_) (fun h1 => ?_)
  · -- then
    have h0 : actS wy rec (doneR kind ⟨f, n, pk, pn⟩ b.xs d) d ⟨st, nn, sick⟩ = ((d, ⟨st, nn, sick⟩), wy.1) := by unfold actS; rw [if_pos h1]
    rw [h0]
    exact WC.seq <| WC.region <| sv (vmI rfl) <| sv (vaI rfl) <| WL.nil <| WX.thenN <| WC.ret <| WX.thenR <| WX.ret1 rfl (()) (trivial) rfl (fun w h => by have h2 := rv_mono (Nat.le_succ _) (rv_mk hi (Own.sp4 (by repeat' (first | exact Spl.nil | (apply Spl.cons; focus (first | ((repeat (first | with_reducible exact Tk.here | with_reducible apply Tk.there)); done) | ((repeat (first | exact Tk.here | apply Tk.there)); done))))) h)); have h3 := rdisk_mono (Own.sp1 (by repeat' (first | exact Spl.nil | (apply Spl.cons; focus (first | ((repeat (first | with_reducible exact Tk.here | with_reducible apply Tk.there)); done) | ((repeat (first | exact Tk.here | apply Tk.there)); done))))) h2); exact Sb.own (by repeat' (first | with_reducible exact Sb.all | exact Sb.nil | (apply Sb.cons; focus (first | ((repeat (first | with_reducible exact Tk.here | with_reducible apply Tk.there)); done) | ((repeat (first | exact Tk.here | apply Tk.there)); done))) | apply Sb.drop)) h3)
  · -- else
    refine WC.skip <| WX.thenN <| WC.seq <| WC.seq <| WC.region <| sv (vmP rfl) <| sv (vnil rfl) <| sv (vfldp fl53f2 rfl) <| sv (vldc pl51 rfl) <| sv (vnil rfl) <| sv (vfldp fl100f3 rfl) <| sv (vldc pl4 rfl) <| WL.nil <| WX.thenN <| ?_
    refine WC.iteb rfl (fun h2 => ?_) (fun h2 => ?_)
    · -- then
      have h0 : actS wy rec (doneR kind ⟨f, n, pk, pn⟩ b.xs d) d ⟨st, nn, sick⟩ = ((d, ⟨st, nn, sick⟩), 20) := by unfold actS; rw [if_neg h1, if_pos h2]
      rw [h0]
      exact WC.seq <| WC.region <| sv (vaI rfl) <| WL.nil <| WX.thenN <| WC.ret <| WX.thenR <| WX.ret1 rfl (()) (trivial) rfl (fun w h => by have h2 := rv_mono (Nat.le_succ _) (rv_mk hi (Own.sp4 (by repeat' (first | exact Spl.nil | (apply Spl.cons; focus (first | ((repeat (first | with_reducible exact Tk.here | with_reducible apply Tk.there)); done) | ((repeat (first | exact Tk.here | apply Tk.there)); done))))) h)); have h3 := rdisk_mono (Own.sp1 (by repeat' (first | exact Spl.nil | (apply Spl.cons; focus (first | ((repeat (first | with_reducible exact Tk.here | with_reducible apply Tk.there)); done) | ((repeat (first | exact Tk.here | apply Tk.there)); done))))) h2); exact Sb.own (by repeat' (first | with_reducible exact Sb.all | exact Sb.nil | (apply Sb.cons; focus (first | ((repeat (first | with_reducible exact Tk.here | with_reducible apply Tk.there)); done) | ((repeat (first | exact Tk.here | apply Tk.there)); done))) | apply Sb.drop)) h3)
    · -- else
      refine WC.skip <| WX.thenN <| WC.seq <| WC.seq <| WC.region <| sv (vmB rfl) <| sv (vnot rfl) <| WL.nil <| WX.thenN <| ?_
      refine WC.iteb rfl (fun h3 => ?_) (fun h3 => ?_)
      · -- then
        have h0 : actS wy rec (doneR kind ⟨f, n, pk, pn⟩ b.xs d) d ⟨st, nn, sick⟩ = ((d, ⟨st, nn, sick⟩), 0) := by unfold actS; rw [if_neg h1, if_neg (by rw [h2]; exact Bool.false_ne_true), if_pos (by simpa using h3)]
        rw [h0]
        exact WC.seq <| WC.region <| sv (vaI rfl) <| WL.nil <| WX.thenN <| WC.ret <| WX.thenR <| WX.ret1 rfl (()) (trivial) rfl (fun w h => by have h2 := rv_mono (Nat.le_succ _) (rv_mk hi (Own.sp4 (by repeat' (first | exact Spl.nil | (apply Spl.cons; focus (first | ((repeat (first | with_reducible exact Tk.here | with_reducible apply Tk.there)); done) | ((repeat (first | exact Tk.here | apply Tk.there)); done))))) h)); have h3 := rdisk_mono (Own.sp1 (by repeat' (first | exact Spl.nil | (apply Spl.cons; focus (first | ((repeat (first | with_reducible exact Tk.here | with_reducible apply Tk.there)); done) | ((repeat (first | exact Tk.here | apply Tk.there)); done))))) h2); exact Sb.own (by repeat' (first | with_reducible exact Sb.all | exact Sb.nil | (apply Sb.cons; focus (first | ((repeat (first | with_reducible exact Tk.here | with_reducible apply Tk.there)); done) | ((repeat (first | exact Tk.here | apply Tk.there)); done))) | apply Sb.drop)) h3)
      · -- else
        have hdo : wy.2 = true := by simpa using h3
        have h0 : actS wy rec (doneR kind ⟨f, n, pk, pn⟩ b.xs d) d ⟨st, nn, sick⟩ = ((if e = 0 then doneR kind ⟨f, n, pk, pn⟩ b.xs d else d, ⟨st2, if e = 0 then nn + 1 else nn, decide (e = 20)⟩), e) := by unfold actS; rw [if_neg h1, if_neg (by rw [h2]; exact Bool.false_ne_true), if_neg (by rw [hdo]; decide), he, hst2]
        rw [h0]
        have hput : kind = 1 → d.parts ⟨f, n, pk, pn⟩ = none := fun hk1 => whyPut_none (by rw [hwy] at hdo; unfold whyR at hdo; rwa [if_pos hk1] at hdo)
        refine WC.skip <| WX.thenN <| WC.seq <| WC.plan (.pre [4] (.one [0, 1, 2, 3] 5 (.bar [] 6 (.done [7])))) rfl (by kernel_rfl) <| WPl.preC <| dv (fun g => (vldac ag57 sz57 rfl rfl (by decide))) <| WD.nil <| WPl.oneE (fun g => by infer_instance) <| dv (fun g => (vmP rfl)) <| dv (fun g => (vnil rfl)) <| dv (fun g => (vfldp fl53f2 rfl)) <| dv (fun g => (vldc pl51 rfl)) <| WD.eff rfl <| clx (by repeat' (first | with_reducible exact Sb.all | exact Sb.nil | (apply Sb.cons; focus (first | ((repeat (first | with_reducible exact Tk.here | with_reducible apply Tk.there)); done) | ((repeat (first | exact Tk.here | apply Tk.there)); done))) | apply Sb.drop)) (ref_bytes (f := f) (n := n) (pk := pk) (pn := pn) (b := b) (by omega) hk (by omega) (by omega)) ct49 rfl fun r8 hr8 => ?_
        rw [← hrec]
        refine WL.nil <| WX.br <| WPl.barC <| WD.eff rfl <| clx (by repeat' (first | with_reducible exact Sb.all | exact Sb.nil | (apply Sb.cons; focus (first | ((repeat (first | with_reducible exact Tk.here | with_reducible apply Tk.there)); done) | ((repeat (first | exact Tk.here | apply Tk.there)); done))) | apply Sb.drop)) (hadd h2 reads) ct48 rfl fun r9 hr9 => ?_
        refine WL.nil <| WX.brT <| WPl.finC <| dv (fun g => (vaI rfl)) <| WD.nil <| WX.thenN <| WC.seq <| WC.seq <| WC.region <| sv (vmI rfl) <| sv (veq rfl rfl) <| WL.nil <| WX.thenN <| ?_
        refine WC.ite rfl (fun h4 => ?_) (fun h4 => ?_)
        · -- then
          refine WC.region <| sv (vmP rfl) <| sv (vldac ag57 sz57 rfl rfl (by decide)) <| pm (fun _ h => (show Own w0 (rv r w N d :: cel w (wcells rd vnm (if e = 0 then nn + 1 else nn) (decide (e = 20))) 100 :: rdisk rd (M + 1) st2 :: A) _ from by have h2 := rv_mk hi (Own.sp4 (by repeat' (first | exact Spl.nil | (apply Spl.cons; focus (first | ((repeat (first | with_reducible exact Tk.here | with_reducible apply Tk.there)); done) | ((repeat (first | exact Tk.here | apply Tk.there)); done))))) h); exact Sb.own (by repeat' (first | with_reducible exact Sb.all | exact Sb.nil | (apply Sb.cons; focus (first | ((repeat (first | with_reducible exact Tk.here | with_reducible apply Tk.there)); done) | ((repeat (first | exact Tk.here | apply Tk.there)); done))) | apply Sb.drop)) h2)) <| clx (by repeat' (first | with_reducible exact Sb.all | exact Sb.nil | (apply Sb.cons; focus (first | ((repeat (first | with_reducible exact Tk.here | with_reducible apply Tk.there)); done) | ((repeat (first | exact Tk.here | apply Tk.there)); done))) | apply Sb.drop)) (ref_done hkind hput hk (by omega) (by omega)) ct21 rfl fun r11 hr11 => ?_
          exact WL.nil <| WX.thenN <| WC.seq <| WC.region <| sv (vmI rfl) <| sv (vaI rfl) <| WL.nil <| WX.thenN <| WC.ret <| WX.ret1 rfl (()) (trivial) rfl (fun w h => by rw [if_pos h4]; exact Sb.own (by repeat' (first | with_reducible exact Sb.all | exact Sb.nil | (apply Sb.cons; focus (first | ((repeat (first | with_reducible exact Tk.here | with_reducible apply Tk.there)); done) | ((repeat (first | exact Tk.here | apply Tk.there)); done))) | apply Sb.drop)) h)
        · -- else
          exact WC.skip <| WX.thenN <| WC.seq <| WC.region <| sv (vmI rfl) <| sv (vaI rfl) <| WL.nil <| WX.thenN <| WC.ret <| WX.ret1 rfl (()) (trivial) rfl (fun w h => by rw [if_neg h4]; have h2 := rv_mono (Nat.le_succ _) (rv_mk hi (Own.sp4 (by repeat' (first | exact Spl.nil | (apply Spl.cons; focus (first | ((repeat (first | with_reducible exact Tk.here | with_reducible apply Tk.there)); done) | ((repeat (first | exact Tk.here | apply Tk.there)); done))))) h)); exact Sb.own (by repeat' (first | with_reducible exact Sb.all | exact Sb.nil | (apply Sb.cons; focus (first | ((repeat (first | with_reducible exact Tk.here | with_reducible apply Tk.there)); done) | ((repeat (first | exact Tk.here | apply Tk.there)); done))) | apply Sb.drop)) h2)
theorem ins_sorted {out : List Int} {a : Nat} {n : Int} (hs : out.Pairwise (· < ·)) (ha : a ≤ out.length) (h1 : ∀ j, j < a → out.getD j 0 < n) (h2 : a < out.length → n < out.getD a 0) : (out.take a ++ [n] ++ out.drop a).Pairwise (· < ·) := by
  have ht : ∀ x ∈ out.take a, x < n := fun x hx => by
    obtain ⟨j, hj, e⟩ := List.mem_iff_getElem.1 hx
    rw [List.length_take] at hj
    have := h1 j (by omega)
    rw [List.getD_eq_getElem?_getD, List.getElem?_eq_getElem (by omega)] at this
    rw [List.getElem_take] at e
    rw [← e]; exact this
  have hd : ∀ x ∈ out.drop a, n < x := fun x hx => by
    obtain ⟨j, hj, e⟩ := List.mem_iff_getElem.1 hx
    rw [List.length_drop] at hj
    have h3 := h2 (by omega)
    rw [List.getD_eq_getElem?_getD, List.getElem?_eq_getElem (by omega)] at h3
    rw [List.getElem_drop] at e
    rw [← e]
    by_cases hj0 : j = 0
    · subst hj0; exact h3
    · have := List.pairwise_iff_getElem.1 hs a (a + j) (by omega) (by omega) (by omega)
      exact Int.lt_trans h3 this
  rw [List.append_assoc, List.pairwise_append]
  refine ⟨hs.sublist (List.take_sublist _ _), ?_, fun x hx y hy => ?_⟩
  · rw [List.singleton_append, List.pairwise_cons]; exact ⟨hd, hs.sublist (List.drop_sublist _ _)⟩
  · rcases List.mem_append.1 hy with hy | hy
    · rw [List.mem_singleton] at hy; rw [hy]; exact ht x hx
    · exact Int.lt_trans (ht x hx) (hd y hy)
theorem ins_mem {out : List Int} {a : Nat} {n x : Int} : x ∈ out.take a ++ [n] ++ out.drop a ↔ x ∈ out ∨ x = n := by
  have : x ∈ out ↔ x ∈ out.take a ∨ x ∈ out.drop a := by
    conv => lhs; rw [← List.take_append_drop a out]
    exact List.mem_append
  rw [this]
  simp only [List.mem_append, List.mem_singleton]
  constructor
  · rintro ((h | h) | h)
    · exact .inl (.inl h)
    · exact .inr h
    · exact .inl (.inr h)
  · rintro ((h | h) | h)
    · exact .inl (.inl h)
    · exact .inr h
    · exact .inl (.inr h)
/-- numbers gathered by the document -/
structure RNR (l : List (PK × Sla UInt8)) (f : ByteArray) (i : Nat) (out : List Int) : Prop where
  sorted : out.Pairwise (· < ·)
  mem : ∀ n, n ∈ out ↔ ∃ x ∈ l.take i, x.1.flow = f ∧ x.1.num = n
  len : out.length ≤ i
theorem RNR.zero {l : List (PK × Sla UInt8)} {f : ByteArray} : RNR l f 0 [] := ⟨List.Pairwise.nil, fun n => by simp, Nat.le_refl _⟩
theorem RNR.skip {l : List (PK × Sla UInt8)} {f : ByteArray} {i : Nat} {out : List Int} {x : PK × Sla UInt8} (h : RNR l f i out) (hx : l[i]? = some x) (hn : x.1.flow ≠ f ∨ x.1.num ∈ out) : RNR l f (i + 1) out := by
  refine ⟨h.sorted, fun n => (h.mem n).trans ⟨fun ⟨y, hy, h2⟩ => ⟨y, ?_, h2⟩, fun ⟨y, hy, h1, h2⟩ => ?_⟩, Nat.le_succ_of_le h.len⟩
  · rw [List.take_add_one]; exact List.mem_append_left _ hy
  · rw [List.take_add_one, hx] at hy
    rcases List.mem_append.1 hy with hy | hy
    · exact ⟨y, hy, h1, h2⟩
    · have : y = x := by simpa using hy
      subst this
      rcases hn with hn | hn
      · exact absurd h1 hn
      · obtain ⟨z, hz, h3, h4⟩ := (h.mem _).1 hn
        exact ⟨z, hz, h3, h4.trans h2⟩
theorem RNR.ins {l : List (PK × Sla UInt8)} {f : ByteArray} {i a : Nat} {out : List Int} {x : PK × Sla UInt8} (h : RNR l f i out) (hx : l[i]? = some x) (hf : x.1.flow = f) (ha : a ≤ out.length) (h1 : ∀ j, j < a → out.getD j 0 < x.1.num) (h2 : a < out.length → x.1.num < out.getD a 0) : RNR l f (i + 1) (out.take a ++ [x.1.num] ++ out.drop a) := by
  refine ⟨ins_sorted h.sorted ha h1 h2, fun n => ?_, ?_⟩
  · rw [ins_mem, List.take_add_one, hx, h.mem]
    constructor
    · rintro (⟨y, hy, h3⟩ | rfl)
      · exact ⟨y, List.mem_append_left _ hy, h3⟩
      · exact ⟨x, List.mem_append_right _ (by simp), hf, rfl⟩
    · rintro ⟨y, hy, h3, h4⟩
      rcases List.mem_append.1 hy with hy | hy
      · exact .inl ⟨y, hy, h3, h4⟩
      · have : y = x := by simpa using hy
        subst this; exact .inr h4.symm
  · have := h.len
    simp only [List.length_append, List.length_take, List.length_drop, List.length_singleton]; omega
theorem RNR.done {d : VD} {N : Nat} {i : RVI} {f : ByteArray} {k : Nat} {out : List Int} (h : RNR i.l f k out) (hk : i.l.length ≤ k) (hv : RVR N d i) : NumsOf d f out := by
  refine ⟨h.sorted, fun n => ?_⟩
  rw [h.mem, List.take_of_length_le hk]
  constructor
  · rintro ⟨x, hx, h1, h2⟩
    have := lookP_mem hv.nd hx
    rw [hv.look] at this
    exact ⟨x.1, h1, h2, by rw [this]; rfl⟩
  · rintro ⟨k, h1, h2, h3⟩
    obtain ⟨b, hb⟩ := Option.isSome_iff_exists.1 h3
    obtain ⟨j, x, hj, rfl, _⟩ := lookP_some ((hv.look k).trans hb)
    exact ⟨x, List.mem_of_getElem? hj, h1, h2⟩
theorem i64s_oneD (xs : List Int) : ∀ v ∈ i64s xs, v.oneCell' = true := by
  intro v hv; obtain ⟨x, _, rfl⟩ := List.mem_map.1 hv; rfl
theorem rd_takeI {w0 : World} {A : List HProp} {base : Option Addr} {xs : List Int} (h : RdC w0 A base (i64s xs)) (k : Nat) : RdC w0 A base (i64s (xs.take k)) := by
  have := h.take k
  rwa [show (i64s xs).take k = i64s (xs.take k) by simp [i64s]] at this
theorem rd_dropI {w0 : World} {A : List HProp} {base : Option Addr} {xs : List Int} (h : RdC w0 A base (i64s xs)) (lo m : Nat) (hm : xs.length ≤ m) : RdC w0 A (slB base lo m 1) (i64s (xs.drop lo)) := by
  have h1 := h.slice lo m 1 (xs.length - lo) (by omega)
  rw [Nat.mul_one] at h1
  have e : ((i64s xs).drop lo).take (xs.length - lo) = i64s (xs.drop lo) := by
    rw [List.take_of_length_le (by rw [List.length_drop]; simp [i64s])]; simp [i64s]
  rwa [e] at h1
theorem sl_eqD {b : Option Addr} {m n c : Nat} (h : m = n) : Value.slice b m c = .slice b n c := by rw [h]
structure NMI where
  i : Nat
  base : Option Addr
  cap : Nat
  xs : List Int
theorem ref_numbers {w0 : World} {A : List HProp} {r w N lc fc : Nat} {lb fb : Option Addr} {l : List (PK × Sla UInt8)} {fl : List (ByteArray × Int)} {d : VD} {f : ByteArray} (hi : RVR N d ⟨l, fl, lb, lc, fb, fc⟩) (hN : N ≤ 134217728) [hc : CelAt A r [.slice lb l.length lc, .slice fb fl.length fc, .pointer (some ⟨w, 0, none⟩)] 53] [hR1 : Reads w0 A lb (fla callC l)] :
    Fun Tryz.prog w0 53 [.pointer (some ⟨r, 0, none⟩), .string f] A (Ret w0 (fun i : Option Addr × Nat × List Int => NumsOf d f i.2.2 ∧ i.2.2.length ≤ N ∧ i.2.2.length ≤ i.2.1) (fun i => .slice i.1 i.2.2.length i.2.1) (fun i => row i.1 i.2.1 1 3 (i64s i.2.2) :: A)) := by
  have hlen := hi.len
  have hcl := fla_length (f := callC) (l := l) callC_len
  dsimp only at hlen
  refine Fun.enter Tryz.func53 rfl Tryz.ntmps53 rfl ?_
  refine WC.seq <| WC.region <| sv (vaS rfl) <| WL.nil <| WX.thenN <| WC.seq <| WC.region <| sv (vaS rfl) <| WL.nil <| WX.thenN <| WC.seq <| WC.seq <| WC.region <| sv (vaI rfl) <| WL.nil <| WX.thenN <| WC.block <| ?_
  refine WC.loop (ι := NMI) (fun i => [(5, .slice i.base i.xs.length i.cap), (6, .int .i64 i.i)]) [(0, .pointer _), (1, .string _)] (fun i => row i.base i.cap 1 3 (i64s i.xs) :: A) (fun i => i.i ≤ l.length ∧ RNR l f i.i i.xs ∧ i.xs.length ≤ i.cap) (fun i => l.length - i.i) (⟨0, none, 0, []⟩) (⟨Nat.zero_le _, RNR.zero, Nat.le_refl _⟩) ⟨rfl, rfl, trivial⟩ ⟨rfl, rfl, trivial⟩ (fun w h => by have h2 := h.intro_row_nil (s := 1) (e := 3); exact Sb.own (by repeat' (first | with_reducible exact Sb.all | exact Sb.nil | (apply Sb.cons; focus (first | ((repeat (first | with_reducible exact Tk.here | with_reducible apply Tk.there)); done) | ((repeat (first | exact Tk.here | apply Tk.there)); done))) | apply Sb.drop)) h2) ?_
  rintro ⟨i, ob, oc, out⟩ ⟨hi1, hi2, hi3⟩ ρh
  have hol := hi2.len
  dsimp only at hi1 hi2 hi3 hol ⊢
  refine WC.seq <| WC.seq <| WC.region <| sv (vmI rfl) <| sv (vmP rfl) <| sv (vnil rfl) <| sv (vfldpz fl53f0 rfl) <| sv (vldc pl50 rfl) <| sv (vlen Tryz.underlying50 rfl) <| sv (vlt rfl rfl) <| WL.nil <| WX.thenN <| ?_
  refine WC.ite rfl (fun h1 => ?_) (fun h1 => ?_)
  · -- then
    have hil : i < l.length := by omega
    obtain ⟨a, ha⟩ : ∃ a, l[i]? = some a := ⟨_, List.getElem?_eq_getElem hil⟩
    have hpos : 0 < (fla callC l).length := by omega
    refine WC.known (fun w h => rsomeV (base := lb) hpos hR1.rd.cons h) fun hb => ?_
    have hf1 := fla6 callC_len ha 1 (by omega)
    have hf2 := fla6 callC_len ha 2 (by omega)
    refine WC.skip <| WX.thenN <| WC.seq <| WC.block <| WC.seq <| WC.seq <| WC.region <| sv (vmP rfl) <| sv (vnil rfl) <| sv (vfldpz fl53f0 rfl) <| sv (vldc pl50 rfl) <| sv (vmI rfl) <| sv (vix Tryz.underlying50 sz57 rfl rfl (by omega) (by omega) reads (hpos)) <| sv (vfldr (hb) fl57f1 rfl) <| sv (vldo pl9 rfl reads (hf1)) <| sv (vmT rfl) <| sv (vnes rfl rfl) <| WL.nil <| WX.thenN <| ?_
    refine WC.ite rfl (fun h2 => ?_) (fun h2 => ?_)
    · -- then
      exact WC.exit <| WX.thenE <| WX.blockH <| WX.thenN <| WC.region <| sv (vmI rfl) <| sv (vadd rfl rfl (by omega)) <| sv (vaI rfl) <| WL.nil <| WX.again (⟨i + 1, ob, oc, out⟩) (⟨by dsimp only; omega, hi2.skip ha (.inl h2), hi3⟩) (by dsimp only; omega) ⟨rfl, rfl, trivial⟩ ⟨rfl, rfl, trivial⟩ (fun _ h => Sb.own (by repeat' (first | with_reducible exact Sb.all | exact Sb.nil | (apply Sb.cons; focus (first | ((repeat (first | with_reducible exact Tk.here | with_reducible apply Tk.there)); done) | ((repeat (first | exact Tk.here | apply Tk.there)); done))) | apply Sb.drop)) h)
    · -- else
      have hfl2 : a.1.flow = f := Decidable.not_not.1 h2
      refine WC.skip <| WX.thenN <| WC.seq <| WC.region <| sv (vmP rfl) <| sv (vnil rfl) <| sv (vfldpz fl53f0 rfl) <| sv (vldc pl50 rfl) <| sv (vmI rfl) <| sv (vix Tryz.underlying50 sz57 rfl rfl (by omega) (by omega) reads (hpos)) <| sv (vfldr (hb) fl57f2 rfl) <| sv (vldo pl3 rfl reads (hf2)) <| sv (vaI rfl) <| WL.nil <| WX.thenN <| WC.seq <| WC.region <| sv (vaI rfl) <| WL.nil <| WX.thenN <| WC.seq <| WC.block <| ?_
      refine WC.loopS (ι := Nat) (fun q => [(8, .int .i64 q)]) [(0, .pointer _), (1, .string _), (5, .slice _ _ _), (6, .int _ _), (7, .int _ _)] (fun q => q ≤ out.length ∧ ∀ j, j < q → out.getD j 0 < a.1.num) (fun q => out.length - q) (0) (⟨Nat.zero_le _, fun j h => by omega⟩) ⟨rfl, trivial⟩ ⟨rfl, rfl, rfl, rfl, rfl, trivial⟩ ?_
      intro q hq ρh
      refine WC.seq <| ?_
      refine WC.cutS [(48, .bool (decide (q < out.length ∧ out.getD q 0 < a.1.num)))] [(0, .pointer _), (1, .string _), (5, .slice _ _ _), (6, .int _ _), (7, .int _ _), (8, .int _ _)] ⟨rfl, rfl, rfl, rfl, rfl, rfl, trivial⟩ ?_ fun ρh => ?_
      · -- ref.go:166
        refine WC.region <| sv (vmI rfl) <| sv (vmS rfl) <| sv (vlen Tryz.underlying105 rfl) <| svs (vlt rfl rfl) (fun q1 => ?_) (fun q1 => ?_)
        ·
          exact sv (vmB rfl) <| svg rfl (vmS rfl) <| svg rfl (vmI rfl) <| svg rfl (vix1 Tryz.underlying105 sz3 rfl rfl (by omega) (by omega) (RdC.of_row (c := oc) (s := 1) (e := 3) (vs := i64s out) (by simp)) (by rw [i64s_length]; omega)) <| svg rfl (vldo pl3 rfl (RdC.of_row (c := oc) (s := 1) (e := 3) (vs := i64s out) (by simp)) (i64s_getN (by omega))) <| svg rfl (vmI rfl) <| svg rfl (vlt rfl rfl) <| sv (vpkt rfl) <| WL.nil <| WX.mid () trivial ⟨bI (by omega), trivial⟩ ⟨rfl, rfl, rfl, rfl, rfl, rfl, trivial⟩ (fun _ h => Sb.own (by repeat' (first | with_reducible exact Sb.all | exact Sb.nil | (apply Sb.cons; focus (first | ((repeat (first | with_reducible exact Tk.here | with_reducible apply Tk.there)); done) | ((repeat (first | exact Tk.here | apply Tk.there)); done))) | apply Sb.drop)) h)
        ·
          exact sv (vmB rfl) <| sng rfl <| sng rfl <| sng rfl <| sng rfl <| sng rfl <| sng rfl <| sv (vpkf rfl) <| WL.nil <| WX.mid () trivial ⟨bF (by omega), trivial⟩ ⟨rfl, rfl, rfl, rfl, rfl, rfl, trivial⟩ (fun _ h => Sb.own (by repeat' (first | with_reducible exact Sb.all | exact Sb.nil | (apply Sb.cons; focus (first | ((repeat (first | with_reducible exact Tk.here | with_reducible apply Tk.there)); done) | ((repeat (first | exact Tk.here | apply Tk.there)); done))) | apply Sb.drop)) h)
      refine WC.ite rfl (fun h3 => ?_) (fun h3 => ?_)
      · -- then
        exact WC.skip <| WX.thenN <| WC.block <| WC.region <| sv (vmI rfl) <| sv (vadd rfl rfl (by omega)) <| sv (vaI rfl) <| WL.nil <| WX.blockN <| WX.again (q + 1) (⟨by omega, fun j hj => by by_cases hjq : j = q; rw [hjq]; exact h3.2; exact hq.2 j (by omega)⟩) (by omega) ⟨rfl, trivial⟩ ⟨rfl, rfl, rfl, rfl, rfl, trivial⟩ (fun _ h => Sb.own (by repeat' (first | with_reducible exact Sb.all | exact Sb.nil | (apply Sb.cons; focus (first | ((repeat (first | with_reducible exact Tk.here | with_reducible apply Tk.there)); done) | ((repeat (first | exact Tk.here | apply Tk.there)); done))) | apply Sb.drop)) h)
      · -- else
        refine WC.exit <| WX.thenE <| WX.thenE <| WX.blockH <| WX.thenN <| WC.seq <| ?_
        refine WC.cutS [(62, .bool (decide (q < out.length ∧ out.getD q 0 = a.1.num)))] [(0, .pointer _), (1, .string _), (5, .slice _ _ _), (6, .int _ _), (7, .int _ _), (8, .int _ _)] ⟨rfl, rfl, rfl, rfl, rfl, rfl, trivial⟩ ?_ fun ρh => ?_
        · -- ref.go:169
          refine WC.region <| sv (vmI rfl) <| sv (vmS rfl) <| sv (vlen Tryz.underlying105 rfl) <| svs (vlt rfl rfl) (fun q2 => ?_) (fun q2 => ?_)
          ·
            exact sv (vmB rfl) <| svg rfl (vmS rfl) <| svg rfl (vmI rfl) <| svg rfl (vix1 Tryz.underlying105 sz3 rfl rfl (by omega) (by omega) (RdC.of_row (c := oc) (s := 1) (e := 3) (vs := i64s out) (by simp)) (by rw [i64s_length]; omega)) <| svg rfl (vldo pl3 rfl (RdC.of_row (c := oc) (s := 1) (e := 3) (vs := i64s out) (by simp)) (i64s_getN (by omega))) <| svg rfl (vmI rfl) <| svg rfl (veq rfl rfl) <| sv (vpkt rfl) <| WL.nil <| WX.mid () trivial ⟨bI (by omega), trivial⟩ ⟨rfl, rfl, rfl, rfl, rfl, rfl, trivial⟩ (fun _ h => Sb.own (by repeat' (first | with_reducible exact Sb.all | exact Sb.nil | (apply Sb.cons; focus (first | ((repeat (first | with_reducible exact Tk.here | with_reducible apply Tk.there)); done) | ((repeat (first | exact Tk.here | apply Tk.there)); done))) | apply Sb.drop)) h)
          ·
            exact sv (vmB rfl) <| sng rfl <| sng rfl <| sng rfl <| sng rfl <| sng rfl <| sng rfl <| sv (vpkf rfl) <| WL.nil <| WX.mid () trivial ⟨bF (by omega), trivial⟩ ⟨rfl, rfl, rfl, rfl, rfl, rfl, trivial⟩ (fun _ h => Sb.own (by repeat' (first | with_reducible exact Sb.all | exact Sb.nil | (apply Sb.cons; focus (first | ((repeat (first | with_reducible exact Tk.here | with_reducible apply Tk.there)); done) | ((repeat (first | exact Tk.here | apply Tk.there)); done))) | apply Sb.drop)) h)
        refine WC.ite rfl (fun h4 => ?_) (fun h4 => ?_)
        · -- then
          exact WC.exit <| WX.thenE <| WX.blockH <| WX.thenN <| WC.region <| sv (vmI rfl) <| sv (vadd rfl rfl (by omega)) <| sv (vaI rfl) <| WL.nil <| WX.again (⟨i + 1, ob, oc, out⟩) (⟨by dsimp only; omega, hi2.skip ha (.inr (by rw [← h4.2]; exact getD_mem h4.1)), hi3⟩) (by dsimp only; omega) ⟨rfl, rfl, trivial⟩ ⟨rfl, rfl, trivial⟩ (fun _ h => Sb.own (by repeat' (first | with_reducible exact Sb.all | exact Sb.nil | (apply Sb.cons; focus (first | ((repeat (first | with_reducible exact Tk.here | with_reducible apply Tk.there)); done) | ((repeat (first | exact Tk.here | apply Tk.there)); done))) | apply Sb.drop)) h)
        · -- else
          have hins := hi2.ins ha hfl2 hq.1 hq.2 (fun h => by omega)
          have htl : (out.take q).length = q := by rw [List.length_take]; omega
          refine WC.skip <| WX.thenN <| WC.seq <| WC.region <| sv (vaS rfl) <| WL.nil <| WX.thenN <| WC.seq <| WC.region <| sv (vmS rfl) <| sv (vmS rfl) <| sv (vmI rfl) <| sv (vslH Tryz.underlying105 sz3 rfl rfl (by omega) (by omega)) <| pm (fun _ h => h.intro_row_nil) <| ap (vs := []) (news := i64s (out.take q)) rfl Tryz.underlying105 zt3 rfl rfl rfl (rfl) (by simp only [i64s_length, htl]; omega) (i64s_oneD _) (rd_takeI (RdC.of_row (c := oc) (s := 1) (e := 3) (by simp)) q) (by simp only [maxLen]; omega) (by omega) fun base14 c14 hc14 => sv (vaS rfl) <| WL.nil <| WX.thenN <| WC.seq <| WC.region <| sv (vmS rfl) <| sv (vmI rfl) <| pm (fun _ h => Sb.own (by repeat' (first | with_reducible exact Sb.all | exact Sb.nil | (apply Sb.cons; focus (first | ((repeat (first | with_reducible exact Tk.here | with_reducible apply Tk.there)); done) | ((repeat (first | exact Tk.here | apply Tk.there)); done))) | apply Sb.drop)) h) <| ap1 (v := .int _ _) (vs := i64s (out.take q)) Tryz.underlying105 zt3 rfl (fun _ => rfl) (fun _ => rfl) rfl rfl rfl (by rw [i64s_length, htl]; omega) (by simp only [maxLen]; omega) (by omega) fun _ base16 c16 hc16 => ?_
          refine sv (vaS rfl) <| WL.nil <| WX.thenN <| WC.seq <| WC.region <| sv (vmS rfl) <| sv (vmS rfl) <| sv (vmI rfl) <| sv (vslL Tryz.underlying105 sz3 rfl rfl (by omega) (by omega)) <| pm (fun _ h => Sb.own (by repeat' (first | with_reducible exact Sb.all | exact Sb.nil | (apply Sb.cons; focus (first | ((repeat (first | with_reducible exact Tk.here | with_reducible apply Tk.there)); done) | ((repeat (first | exact Tk.here | apply Tk.there)); done))) | apply Sb.drop)) h) <| ap (vs := i64s (out.take q) ++ [.int .i64 a.1.num]) (news := i64s (out.drop q)) rfl Tryz.underlying105 zt3 rfl rfl rfl (by simp only [List.length_append, i64s_length, htl, List.length_singleton]; omega) (by simp only [i64s_length, List.length_drop]; omega) (i64s_oneD _) (rd_dropI (RdC.of_row (c := oc) (s := 1) (e := 3) (by simp)) q oc hi3) (by simp only [maxLen]; omega) (by omega) fun base18 c18 hc18 => ?_
          exact sv (vaS rfl) <| WL.nil <| WX.thenN <| WC.region <| sv (vmS rfl) <| sv (vaS rfl) <| WL.nil <| WX.blockN <| WX.thenN <| WC.region <| sv (vmI rfl) <| sv (vadd rfl rfl (by omega)) <| sv (vaI rfl) <| WL.nil <| WX.again (⟨i + 1, base18, c18, out.take q ++ [a.1.num] ++ out.drop q⟩) (⟨by dsimp only; omega, hins, by simp only [List.length_append, htl, List.length_singleton, List.length_drop]; omega⟩) (by dsimp only; omega) ⟨sl_eqD (by simp only [List.length_append, htl, List.length_singleton, List.length_drop]; omega), rfl, trivial⟩ ⟨rfl, rfl, trivial⟩ (fun w h => by rw [show i64s (out.take q ++ [a.1.num] ++ out.drop q) = i64s (out.take q) ++ [.int .i64 a.1.num] ++ i64s (out.drop q) by simp [i64s]]; exact Sb.own (by repeat' (first | with_reducible exact Sb.all | exact Sb.nil | (apply Sb.cons; focus (first | ((repeat (first | with_reducible exact Tk.here | with_reducible apply Tk.there)); done) | ((repeat (first | exact Tk.here | apply Tk.there)); done))) | apply Sb.drop)) h)
  · -- else
    exact WC.exit <| WX.thenE <| WX.thenE <| WX.blockH <| WX.thenN <| WC.seq <| WC.region <| sv (vmS rfl) <| sv (vaS rfl) <| WL.nil <| WX.thenN <| WC.ret <| WX.ret1 rfl ((ob, oc, out)) (⟨hi2.done (by dsimp only; omega) hi, by dsimp only; omega, hi3⟩) rfl (fun _ h => Sb.own (by repeat' (first | with_reducible exact Sb.all | exact Sb.nil | (apply Sb.cons; focus (first | ((repeat (first | with_reducible exact Tk.here | with_reducible apply Tk.there)); done) | ((repeat (first | exact Tk.here | apply Tk.there)); done))) | apply Sb.drop)) h)
theorem find_has {l : List (PK × Sla UInt8)} {fl : List (ByteArray × Int)} {lb fb : Option Addr} {lc fc N : Nat} {d : VD} {f : ByteArray} {n kind v : Int} {i : Nat} (hi : RVR N d ⟨l, fl, lb, lc, fb, fc⟩) (h : FindR l ⟨f, n, kind, i⟩ v) : v < 0 ↔ hasP d f n kind i = false := by
  rw [h.neg hi.nd, hi.look]; unfold hasP; rw [← Option.not_isSome_iff_eq_none, Bool.not_eq_true]
theorem ref_whole {w0 : World} {A : List HProp} {r w N lc fc : Nat} {lb fb : Option Addr} {l : List (PK × Sla UInt8)} {fl : List (ByteArray × Int)} {d : VD} {f : ByteArray} {n parts : Int} (hi : RVR N d ⟨l, fl, lb, lc, fb, fc⟩) (hN : N ≤ 134217728) [hc : CelAt A r [.slice lb l.length lc, .slice fb fl.length fc, .pointer (some ⟨w, 0, none⟩)] 53] [hR1 : Reads w0 A lb (fla callC l)] :
    Fun Tryz.prog w0 51 [.pointer (some ⟨r, 0, none⟩), .string f, .int .i64 n, .int .i64 parts] A (Ret w0 (fun _ : Unit => True) (fun _ => .bool (wholeP d f n parts)) (fun _ => A)) := by
  have hlen := hi.len
  dsimp only at hlen
  refine Fun.enter Tryz.func51 rfl Tryz.ntmps51 rfl ?_
  refine WC.seq <| WC.region <| sv (vaB rfl) <| WL.nil <| WX.thenN <| WC.seq <| ?_
  refine WC.cutS [(16, .bool (decide (¬ (1 ≤ parts ∧ parts ≤ 16))))] [(0, .pointer _), (1, .string _), (2, .int _ _), (3, .int _ _)] ⟨rfl, rfl, rfl, rfl, trivial⟩ ?_ fun ρh => ?_
  · -- ref.go:141
    refine WC.region <| sv (vmI rfl) <| svs (vlt rfl rfl) (fun q1 => ?_) (fun q1 => ?_)
    ·
      exact sv (vmB rfl) <| sng rfl <| sng rfl <| sv (vpkt rfl) <| WL.nil <| WX.mid () trivial ⟨bT (by omega), trivial⟩ ⟨rfl, rfl, rfl, rfl, trivial⟩ (fun _ h => Sb.own (by repeat' (first | with_reducible exact Sb.all | exact Sb.nil | (apply Sb.cons; focus (first | ((repeat (first | with_reducible exact Tk.here | with_reducible apply Tk.there)); done) | ((repeat (first | exact Tk.here | apply Tk.there)); done))) | apply Sb.drop)) h)
    ·
      exact sv (vmB rfl) <| svg rfl (vmI rfl) <| svg rfl (vgt rfl rfl) <| sv (vpkf rfl) <| WL.nil <| WX.mid () trivial ⟨bI (by omega), trivial⟩ ⟨rfl, rfl, rfl, rfl, trivial⟩ (fun _ h => Sb.own (by repeat' (first | with_reducible exact Sb.all | exact Sb.nil | (apply Sb.cons; focus (first | ((repeat (first | with_reducible exact Tk.here | with_reducible apply Tk.there)); done) | ((repeat (first | exact Tk.here | apply Tk.there)); done))) | apply Sb.drop)) h)
  refine WC.ite rfl (fun h1 => ?_) (fun h1 => ?_)
  · -- then
    exact WC.seq <| WC.region <| sv (vaB rfl) <| WL.nil <| WX.thenN <| WC.ret <| WX.thenR <| WX.ret1 rfl (()) (trivial) (by unfold wholeP; rw [decide_eq_false h1]; rfl) (fun _ h => Sb.own (by repeat' (first | with_reducible exact Sb.all | exact Sb.nil | (apply Sb.cons; focus (first | ((repeat (first | with_reducible exact Tk.here | with_reducible apply Tk.there)); done) | ((repeat (first | exact Tk.here | apply Tk.there)); done))) | apply Sb.drop)) h)
  · -- else
    have hp : 1 ≤ parts ∧ parts ≤ 16 := Decidable.not_not.1 h1
    refine WC.skip <| WX.thenN <| WC.seq <| WC.seq <| WC.region <| sv (vaI rfl) <| WL.nil <| WX.thenN <| WC.block <| ?_
    refine WC.loopS (ι := Nat) (fun i => [(9, .int .i64 i)]) [(0, .pointer _), (1, .string _), (2, .int _ _), (3, .int _ _)] (fun i => i ≤ parts ∧ (List.range i).all (hasP d f n 1) = true) (fun i => parts.toNat - i) (0) (⟨by omega, rfl⟩) ⟨rfl, trivial⟩ ⟨rfl, rfl, rfl, rfl, trivial⟩ ?_
    intro i hj ρh
    refine WC.seq <| WC.seq <| WC.region <| sv (vmI rfl) <| sv (vmI rfl) <| sv (vlt rfl rfl) <| WL.nil <| WX.thenN <| ?_
    refine WC.ite rfl (fun h2 => ?_) (fun h2 => ?_)
    · -- then
      refine WC.skip <| WX.thenN <| WC.seq <| WC.block <| WC.seq <| WC.region <| sv (vmP rfl) <| sv (vmT rfl) <| sv (vmI rfl) <| sv (vmI rfl) <| sv (vbd (ps := [(0, (.int .i64 1)), (1, .int _ _)]) (cs := [_, _]) bt46 zt46 rfl (by rfl)) <| clx (by repeat' (first | with_reducible exact Sb.all | exact Sb.nil | (apply Sb.cons; focus (first | ((repeat (first | with_reducible exact Tk.here | with_reducible apply Tk.there)); done) | ((repeat (first | exact Tk.here | apply Tk.there)); done))) | apply Sb.drop)) (ref_find16 (l := l) (by omega)) ct47 rfl fun r2 hr2 => ?_
      refine sv (vlt rfl rfl) <| WL.nil <| WX.thenN <| ?_
      refine WC.ite rfl (fun h3 => ?_) (fun h3 => ?_)
      · -- then
        exact WC.seq <| WC.region <| sv (vaB rfl) <| WL.nil <| WX.thenN <| WC.ret <| WX.blockR <| WX.thenR <| WX.thenR <| WX.blockR <| WX.thenR <| WX.ret1 rfl (()) (trivial) (show Value.bool false = _ from by unfold wholeP; rw [range_no (p := hasP d f n 1) (i := i) (by omega) ((find_has hi hr2).1 h3)]; simp) (fun _ h => Sb.own (by repeat' (first | with_reducible exact Sb.all | exact Sb.nil | (apply Sb.cons; focus (first | ((repeat (first | with_reducible exact Tk.here | with_reducible apply Tk.there)); done) | ((repeat (first | exact Tk.here | apply Tk.there)); done))) | apply Sb.drop)) h)
      · -- else
        exact WC.skip <| WX.blockN <| WX.thenN <| WC.region <| sv (vmI rfl) <| sv (vadd rfl rfl (by omega)) <| sv (vaI rfl) <| WL.nil <| WX.again (i + 1) (⟨by omega, range_snoc hj.2 (by have := (not_congr (find_has hi hr2)).1 h3; simpa using this)⟩) (by omega) ⟨rfl, trivial⟩ ⟨rfl, rfl, rfl, rfl, trivial⟩ (fun _ h => Sb.own (by repeat' (first | with_reducible exact Sb.all | exact Sb.nil | (apply Sb.cons; focus (first | ((repeat (first | with_reducible exact Tk.here | with_reducible apply Tk.there)); done) | ((repeat (first | exact Tk.here | apply Tk.there)); done))) | apply Sb.drop)) h)
    · -- else
      refine WC.exit <| WX.thenE <| WX.thenE <| WX.blockH <| WX.thenN <| WC.seq <| WC.seq <| WC.region <| sv (vaI rfl) <| WL.nil <| WX.thenN <| WC.block <| ?_
      refine WC.loopS (ι := Nat) (fun k => [(10, .int .i64 k)]) [(0, .pointer _), (1, .string _), (2, .int _ _)] (fun k => (k : Int) ≤ 16 ∧ (List.range k).all (hasP d f n 2) = true) (fun k => 16 - k) (0) (⟨by omega, rfl⟩) ⟨rfl, trivial⟩ ⟨rfl, rfl, rfl, trivial⟩ ?_
      intro k hk ρh
      refine WC.seq <| WC.seq <| WC.region <| sv (vmI rfl) <| sv (vlt rfl rfl) <| WL.nil <| WX.thenN <| ?_
      refine WC.ite rfl (fun h4 => ?_) (fun h4 => ?_)
      · -- then
        refine WC.skip <| WX.thenN <| WC.seq <| WC.block <| WC.seq <| WC.region <| sv (vmP rfl) <| sv (vmT rfl) <| sv (vmI rfl) <| sv (vmI rfl) <| sv (vbd (ps := [(0, (.int .i64 2)), (1, .int _ _)]) (cs := [_, _]) bt46 zt46 rfl (by rfl)) <| clx (by repeat' (first | with_reducible exact Sb.all | exact Sb.nil | (apply Sb.cons; focus (first | ((repeat (first | with_reducible exact Tk.here | with_reducible apply Tk.there)); done) | ((repeat (first | exact Tk.here | apply Tk.there)); done))) | apply Sb.drop)) (ref_find16 (l := l) (by omega)) ct47 rfl fun r5 hr5 => ?_
        refine sv (vlt rfl rfl) <| WL.nil <| WX.thenN <| ?_
        refine WC.ite rfl (fun h5 => ?_) (fun h5 => ?_)
        · -- then
          exact WC.seq <| WC.region <| sv (vaB rfl) <| WL.nil <| WX.thenN <| WC.ret <| WX.blockR <| WX.thenR <| WX.thenR <| WX.blockR <| WX.thenR <| WX.ret1 rfl (()) (trivial) (show Value.bool false = _ from by unfold wholeP; rw [range_no (p := hasP d f n 2) (n := 16) (i := k) (by omega) ((find_has hi hr5).1 h5)]; simp) (fun _ h => Sb.own (by repeat' (first | with_reducible exact Sb.all | exact Sb.nil | (apply Sb.cons; focus (first | ((repeat (first | with_reducible exact Tk.here | with_reducible apply Tk.there)); done) | ((repeat (first | exact Tk.here | apply Tk.there)); done))) | apply Sb.drop)) h)
        · -- else
          exact WC.skip <| WX.blockN <| WX.thenN <| WC.region <| sv (vmI rfl) <| sv (vadd rfl rfl (by omega)) <| sv (vaI rfl) <| WL.nil <| WX.again (k + 1) (⟨by omega, range_snoc hk.2 (by have := (not_congr (find_has hi hr5)).1 h5; simpa using this)⟩) (by omega) ⟨rfl, trivial⟩ ⟨rfl, rfl, rfl, trivial⟩ (fun _ h => Sb.own (by repeat' (first | with_reducible exact Sb.all | exact Sb.nil | (apply Sb.cons; focus (first | ((repeat (first | with_reducible exact Tk.here | with_reducible apply Tk.there)); done) | ((repeat (first | exact Tk.here | apply Tk.there)); done))) | apply Sb.drop)) h)
      · -- else
        have e1 : i = parts.toNat := by omega
        have e2 : k = 16 := by omega
        exact WC.exit <| WX.thenE <| WX.thenE <| WX.blockH <| WX.thenN <| WC.seq <| WC.region <| sv (vaB rfl) <| WL.nil <| WX.thenN <| WC.ret <| WX.ret1 rfl (()) (trivial) (show Value.bool true = _ from by { unfold wholeP; rw [decide_eq_true hp, ← e1, hj.2, ← e2, hk.2]; rfl }) (fun _ h => Sb.own (by repeat' (first | with_reducible exact Sb.all | exact Sb.nil | (apply Sb.cons; focus (first | ((repeat (first | with_reducible exact Tk.here | with_reducible apply Tk.there)); done) | ((repeat (first | exact Tk.here | apply Tk.there)); done))) | apply Sb.drop)) h)
end Go.Proofs.YthljpljbpbkkcaaGreatDoor
end
section
set_option linter.unusedVariables false
set_option linter.unusedSimpArgs false
set_option maxRecDepth 4000
namespace Go.Proofs.YthljpljbpbkkcaaGreatDoor
open Go.Sl Go.RowKit Go.Pack Go.Vault Go.Journal

theorem rows_cap {w0 w : World} {e : TypeId} : ∀ {l : List (Sla UInt8)} {A : List HProp} {x : Sla UInt8}, x ∈ l → Own w0 (rows e l :: A) w → x.xs.length ≤ x.cap
  | [], A, x, hx, h => by cases hx
  | y :: l, A, x, hx, h => by
    have h1 := h.star
    rcases List.mem_cons.1 hx with rfl | hx
    · have := (row_le h1).1
      rw [u8s_length, Nat.mul_one] at this; exact this
    · exact rows_cap hx h1.tail
/-- a record's call, done again -/
theorem redo_of {bs : List UInt8} {d : VD} {i : RcI} (h : RcOk bs i) : redoP bs d = if i.ok = true then (if (whyR d i.kind i.k).1 = 0 then some (if (whyR d i.kind i.k).2 = true then doneR i.kind i.k i.b.xs d else d) else none) else none := by
  unfold redoP
  by_cases ho : i.ok = true
  · rw [if_pos ho]
    rcases h.yes ho with ⟨h1, h2⟩ | ⟨h1, _, _, _, h2⟩
    · rw [h2]; unfold whyR doneR; rw [if_pos h1, if_pos h1]; rfl
    · have h1' : ¬ i.kind = 1 := by rw [h1]; decide
      rw [h2]; unfold whyR doneR; rw [if_neg h1', if_neg h1']; rfl
  · rw [if_neg ho, h.no (by simpa using ho)]; rfl
theorem RcOk.kind2 {bs : List UInt8} {i : RcI} (h : RcOk bs i) (ho : i.ok = true) : i.kind = 1 ∨ (i.kind = 2 ∧ i.k.kind = 0 ∧ i.k.n = 0 ∧ i.b = ⟨none, [], 0⟩) := by
  rcases h.yes ho with ⟨h1, h2⟩ | ⟨h1, h2, h3, h4, _⟩
  · exact .inl h1
  · exact .inr ⟨h1, h2, h3, h4⟩
theorem ref_open16_err {w0 : World} {A : List HProp} {rd M : Nat} {st st' : DSt} {e : Int} (hM : M ≤ 134217728) (hd : 0 ≤ st.deeds ∧ st.deeds + 1 ≤ 9223372036854775807) (ho : openS vnm st = (st', e)) (he : e ≠ 0) (hb : (readS vnm st).1.length ≤ 16777216) : Fun Tryz.prog w0 11 [.pointer (some ⟨rd, 0, none⟩)] (rdisk rd M st :: A) (Ret w0 (fun _ : Unit => True) (fun _ => .tuple #[.pointer none, .int .i64 20]) (fun _ => rdisk rd M st' :: A)) := by
  refine Fun.enter Tryz.func11 rfl Tryz.ntmps11 rfl ?_
  refine WC.seq <| WC.region <| sv (vaP rfl) <| sv (vaI rfl) <| WL.nil <| WX.thenN <| WC.seq <| WC.region <| sv (vmP rfl) <| clx (by repeat' (first | with_reducible exact Sb.all | exact Sb.nil | (apply Sb.cons; focus (first | ((repeat (first | with_reducible exact Tk.here | with_reducible apply Tk.there)); done) | ((repeat (first | exact Tk.here | apply Tk.there)); done))) | apply Sb.drop)) (ref_open_no (by omega) hd vnm_ok ho he hb) ct38 rfl fun r1 hr1 => ?_
  refine sv vmv <| sv (vex rfl rfl) <| sv (vex rfl rfl) <| sv (vex rfl rfl) <| sv (vaP rfl) <| sv (vaS rfl) <| sv (vaI rfl) <| WL.nil <| WX.thenN <| WC.seq <| WC.seq <| WC.region <| sv (vmI rfl) <| sv (vne rfl rfl) <| WL.nil <| WX.thenN <| ?_
  refine WC.ite rfl (fun h1 => ?_) (fun h1 => ?_)
  · -- then
    exact WC.seq <| WC.region <| sv (vmI rfl) <| sv (vaP rfl) <| sv (vaI rfl) <| WL.nil <| WX.thenN <| WC.ret <| WX.thenR <| WX.ret2 rfl (()) (trivial) rfl (fun _ h => Sb.own (by repeat' (first | with_reducible exact Sb.all | exact Sb.nil | (apply Sb.cons; focus (first | ((repeat (first | with_reducible exact Tk.here | with_reducible apply Tk.there)); done) | ((repeat (first | exact Tk.here | apply Tk.there)); done))) | apply Sb.drop)) h)
  · -- else
    exact absurd (show (20 : Int) ≠ 0 by decide) h1
theorem ref_open16_ok {w0 : World} {A : List HProp} {rd M : Nat} {st st' : DSt} (hM : M ≤ 134217728) (hd : 0 ≤ st.deeds ∧ st.deeds + 1 ≤ 9223372036854775807) (ho : openS vnm st = (st', 0)) (hfile : (readS vnm st).1.length ≤ 16777216) : Fun Tryz.prog w0 11 [.pointer (some ⟨rd, 0, none⟩)] (rdisk rd M st :: A)
    (Ret w0 (fun i : Option (Nat × Nat × VD) => redoA (recsB (readS vnm st).1).1 VD.new = i.map (·.2.2)) (fun i => .tuple #[.pointer (i.map fun x => ⟨x.1, 0, none⟩), .int .i64 (if i.isSome = true then 0 else 4)])
      (fun i => match i with | none => rdisk rd M st' :: A | some x => rv x.1 x.2.1 (recsB (readS vnm st).1).1.length x.2.2 :: cel x.2.1 (wcells rd vnm (recsB (readS vnm st).1).1.length false) 100 :: rdisk rd M st' :: A)) := by
  obtain ⟨recs, hrecs⟩ : ∃ r, r = (recsB (readS vnm st).1).1 := ⟨_, rfl⟩
  have hlens := recsB_lens _ (readS vnm st).1 (Nat.le_refl _)
  rw [← hrecs] at hlens ⊢
  refine Fun.enter Tryz.func11 rfl Tryz.ntmps11 rfl ?_
  refine WC.seq <| WC.region <| sv (vaP rfl) <| sv (vaI rfl) <| WL.nil <| WX.thenN <| WC.seq <| WC.region <| sv (vmP rfl) <| clx (by repeat' (first | with_reducible exact Sb.all | exact Sb.nil | (apply Sb.cons; focus (first | ((repeat (first | with_reducible exact Tk.here | with_reducible apply Tk.there)); done) | ((repeat (first | exact Tk.here | apply Tk.there)); done))) | apply Sb.drop)) (ref_open_ok (by omega) hd ho hrecs.symm hfile) ct38 rfl fun r1 hr1 => ?_
  obtain ⟨j, rb, rc, l⟩ := r1
  obtain ⟨g1, g2⟩ := hr1
  have gl : l.length = recs.length := by rw [← g1, List.length_map]
  dsimp only at g1 g2 ⊢
  refine sv vmv <| sv (vex rfl rfl) <| sv (vex rfl rfl) <| sv (vex rfl rfl) <| sv (vaP rfl) <| sv (vaS rfl) <| sv (vaI rfl) <| WL.nil <| WX.thenN <| WC.seq <| WC.seq <| WC.region <| sv (vmI rfl) <| sv (vne rfl rfl) <| WL.nil <| WX.thenN <| ?_
  refine WC.ff rfl ?_
  refine WC.skip <| WX.thenN <| WC.seq <| WC.region <| sv (vmP rfl) <| sv (vbd (ps := [(2, .pointer _)]) (cs := [_, _, _]) bt53 zt53 rfl (by rfl)) <| bxc (v := .agg _) (cs := [.slice _ _ _, .slice _ _ _, .pointer _]) rfl rfl fun b3 => sv (vaP rfl) <| WL.nil <| WX.thenN <| WC.seq <| WC.seq <| WC.region <| sv (vaI rfl) <| WL.nil <| WX.thenN <| WC.block <| ?_
  refine WC.loop (ι := Nat × VD) (fun i => [(8, .int .i64 i.1)]) [(5, .slice _ _ _), (7, .pointer _)] (fun i => rv b3 j i.1 i.2 :: cel j (wcells rd vnm l.length false) 100 :: rdisk rd M st' :: row rb rc 1 23 (bss l) :: rows 5 l :: A) (fun i => i.1 ≤ l.length ∧ redoA (recs.take i.1) VD.new = some i.2) (fun i => l.length - i.1) ((0, VD.new)) (⟨Nat.zero_le _, rfl⟩) ⟨rfl, trivial⟩ ⟨rfl, rfl, trivial⟩ (fun w h => by have h0 := (h.intro_emp).intro_row_nil (s := 6) (e := 57); have h1 := (Own.sp4 (X1 := cel b3 (rvc ⟨[], [], none, 0, none, 0⟩ j) 53) (X2 := row none 0 6 57 []) (X3 := row none 0 6 57 []) (X4 := rows 5 []) (by repeat' (first | exact Spl.nil | (apply Spl.cons; focus (first | ((repeat (first | with_reducible exact Tk.here | with_reducible apply Tk.there)); done) | ((repeat (first | exact Tk.here | apply Tk.there)); done))))) (h0.intro_row_nil (s := 6) (e := 57))); have h2 := rv_mk (r := b3) (w := j) (N := 0) (d := VD.new) RVR.new h1; exact Sb.own (by repeat' (first | with_reducible exact Sb.all | exact Sb.nil | (apply Sb.cons; focus (first | ((repeat (first | with_reducible exact Tk.here | with_reducible apply Tk.there)); done) | ((repeat (first | exact Tk.here | apply Tk.there)); done))) | apply Sb.drop)) h2) ?_
  rintro ⟨i, d⟩ ⟨hi, hred⟩ ρh
  dsimp only at hi hred ⊢
  refine WC.seq <| WC.seq <| WC.region <| sv (vmI rfl) <| sv (vmS rfl) <| sv (vlen Tryz.underlying22 rfl) <| sv (vlt rfl rfl) <| WL.nil <| WX.thenN <| ?_
  refine WC.ite rfl (fun h2 => ?_) (fun h2 => ?_)
  · -- then
    have hil : i < l.length := by omega
    have hri : recs[i]? = some l[i].xs := by rw [← g1, List.getElem?_map, List.getElem?_eq_getElem hil]; rfl
    have hrl : l[i].xs.length ≤ 1048576 := hlens.1 _ (List.mem_of_getElem? hri)
    have hnx : redoA (recs.take (i + 1)) VD.new = redoP l[i].xs d := by rw [List.take_add_one, hri, Option.toList_some, redoA_snoc, hred]; rfl
    have hrn : recs.length ≤ 16777216 := by omega
    refine WC.known (fun w h => rows_cap (e := 5) (List.getElem_mem hil) (Sb.own (B := [rows 5 l]) (by repeat' (first | with_reducible exact Sb.all | exact Sb.nil | (apply Sb.cons; focus (first | ((repeat (first | with_reducible exact Tk.here | with_reducible apply Tk.there)); done) | ((repeat (first | exact Tk.here | apply Tk.there)); done))) | apply Sb.drop)) h)) fun hcap => ?_
    refine WC.ex (fun w h => rv_open h) ?_
    rintro ⟨pl, fl, lb, lc, fb, fc⟩ hv
    dsimp only [rvc]
    refine WC.skip <| WX.thenN <| WC.seq <| WC.block <| WC.seq <| WC.region <| sv (vmS rfl) <| sv (vmI rfl) <| sv (vix1 Tryz.underlying22 sz23 rfl rfl (by omega) (by omega) (RdC.of_row (c := rc) (s := 1) (e := 23) (vs := bss l) (by simp)) (by rw [bss_length]; omega)) <| sv (vldo pl23 rfl (RdC.of_row (c := rc) (s := 1) (e := 23) (vs := bss l) (by simp)) (bss_at hil)) <| clx (by repeat' (first | with_reducible exact Sb.all | exact Sb.nil | (apply Sb.cons; focus (first | ((repeat (first | with_reducible exact Tk.here | with_reducible apply Tk.there)); done) | ((repeat (first | exact Tk.here | apply Tk.there)); done))) | apply Sb.drop)) (ref_read16 (hR := ⟨RdC.of_rows (e := 5) (l := l) (by simp) (List.getElem_mem hil)⟩) hrl hcap) ct39 rfl fun r6 hr6 => ?_
    obtain ⟨kind, ⟨kf, kn, kk, km⟩, kb, ok⟩ := r6
    have hro := redo_of (d := d) hr6
    have hpk := hr6.pk
    have hbl := hr6.len
    have hk2 := hr6.kind2
    dsimp only at hro hpk hbl hk2 ⊢
    refine sv vmv <| sv (vex rfl rfl) <| sv (vex rfl rfl) <| alz (cs := [.int .i64 0, .string ByteArray.empty, .int .i64 0, .int .i64 0, .int .i64 0, .slice none 0 0]) zt57 (by rfl) fun b7 => stAp sz57 rfl rfl rfl (by intro v hv; simp only [List.mem_cons, List.not_mem_nil, or_false] at hv; rcases hv with rfl | rfl | rfl | rfl | rfl | rfl <;> rfl) rfl <| sv (vaB rfl) <| WL.nil <| WX.thenN <| WC.seq <| WC.seq <| WC.region <| sv (vmB rfl) <| sv (vnot rfl) <| WL.nil <| WX.thenN <| ?_
    refine WC.iteb rfl (fun h3 => ?_) (fun h3 => ?_)
    · -- then
      have hok : ok = false := by simpa using h3
      rw [hok, if_neg Bool.false_ne_true] at hro
      exact WC.seq <| WC.region <| sv (vaP rfl) <| sv (vaI rfl) <| WL.nil <| WX.thenN <| WC.ret <| WX.thenR <| WX.blockR <| WX.thenR <| WX.thenR <| WX.blockR <| WX.thenR <| WX.ret2 rfl (none) (by rw [← List.take_append_drop (i + 1) recs]; exact redoA_none (hnx.trans hro)) rfl (fun _ h => Sb.own (by repeat' (first | with_reducible exact Sb.all | exact Sb.nil | (apply Sb.cons; focus (first | ((repeat (first | with_reducible exact Tk.here | with_reducible apply Tk.there)); done) | ((repeat (first | exact Tk.here | apply Tk.there)); done))) | apply Sb.drop)) h)
    · -- else
      have hok : ok = true := by simpa using h3
      rw [if_pos hok] at hro
      have hkk := hk2 hok
      have hk12 : kind = 1 ∨ kind = 2 := by rcases hkk with h | h; exact .inl h; exact .inr h.1
      refine WC.skip <| WX.thenN <| WC.seq <| WC.region <| sv (vmP rfl) <| sv (vldac ag57 sz57 rfl rfl (by decide)) <| clx (by repeat' (first | with_reducible exact Sb.all | exact Sb.nil | (apply Sb.cons; focus (first | ((repeat (first | with_reducible exact Tk.here | with_reducible apply Tk.there)); done) | ((repeat (first | exact Tk.here | apply Tk.there)); done))) | apply Sb.drop)) (ref_why hv (by omega) hk12 hpk.flow) ct18 rfl fun r10 hr10 => ?_
      refine sv vmv <| sv (vex rfl rfl) <| sv (vex rfl rfl) <| sv (vaI rfl) <| sv (vaB rfl) <| WL.nil <| WX.thenN <| WC.seq <| WC.seq <| WC.region <| sv (vmI rfl) <| sv (vne rfl rfl) <| WL.nil <| WX.thenN <| ?_
      refine WC.ite rfl (fun h4 => ?_) (fun h4 => ?_)
      · -- then
        rw [if_neg h4] at hro
        exact WC.seq <| WC.region <| sv (vaP rfl) <| sv (vaI rfl) <| WL.nil <| WX.thenN <| WC.ret <| WX.thenR <| WX.blockR <| WX.thenR <| WX.thenR <| WX.blockR <| WX.thenR <| WX.ret2 rfl (none) (by rw [← List.take_append_drop (i + 1) recs]; exact redoA_none (hnx.trans hro)) rfl (fun _ h => Sb.own (by repeat' (first | with_reducible exact Sb.all | exact Sb.nil | (apply Sb.cons; focus (first | ((repeat (first | with_reducible exact Tk.here | with_reducible apply Tk.there)); done) | ((repeat (first | exact Tk.here | apply Tk.there)); done))) | apply Sb.drop)) h)
      · -- else
        have h40 : (whyR d kind ⟨kf, kn, kk, km⟩).1 = 0 := Decidable.not_not.1 h4
        rw [if_pos h40] at hro
        refine WC.skip <| WX.thenN <| WC.seq <| WC.region <| sv (vmB rfl) <| WL.nil <| WX.thenN <| ?_
        refine WC.iteb rfl (fun h5 => ?_) (fun h5 => ?_)
        · -- then
          rw [if_pos h5] at hro
          refine WC.region <| sv (vmP rfl) <| sv (vldac ag57 sz57 rfl rfl (by decide)) <| pm (fun _ h => (show Own w0 (rv b3 j i d :: row kb.base kb.cap 1 5 (u8s kb.xs) :: cel j (wcells rd vnm l.length false) 100 :: rdisk rd M st' :: row rb rc 1 23 (bss l) :: rows 5 l :: A) _ from by have h2 := rv_mk hv (Own.sp4 (by repeat' (first | exact Spl.nil | (apply Spl.cons; focus (first | ((repeat (first | with_reducible exact Tk.here | with_reducible apply Tk.there)); done) | ((repeat (first | exact Tk.here | apply Tk.there)); done))))) h); exact Sb.own (by repeat' (first | with_reducible exact Sb.all | exact Sb.nil | (apply Sb.cons; focus (first | ((repeat (first | with_reducible exact Tk.here | with_reducible apply Tk.there)); done) | ((repeat (first | exact Tk.here | apply Tk.there)); done))) | apply Sb.drop)) h2)) <| clx (by repeat' (first | with_reducible exact Sb.all | exact Sb.nil | (apply Sb.cons; focus (first | ((repeat (first | with_reducible exact Tk.here | with_reducible apply Tk.there)); done) | ((repeat (first | exact Tk.here | apply Tk.there)); done))) | apply Sb.drop)) (ref_done (f := kf) (n := kn) (pk := kk) (pn := km) (b := kb) hkk (fun hk1 => whyPut_none (by have := h5; unfold whyR at this; rwa [if_pos hk1] at this)) hpk hbl.2 (by omega)) ct21 rfl fun r12 hr12 => ?_
          exact WL.nil <| WX.blockN <| WX.thenN <| WC.region <| sv (vmI rfl) <| sv (vadd rfl rfl (by omega)) <| sv (vaI rfl) <| WL.nil <| WX.again ((i + 1, doneR kind ⟨kf, kn, kk, km⟩ kb.xs d)) (⟨by omega, hnx.trans hro⟩) (by omega) ⟨rfl, trivial⟩ ⟨rfl, rfl, trivial⟩ (fun _ h => Sb.own (by repeat' (first | with_reducible exact Sb.all | exact Sb.nil | (apply Sb.cons; focus (first | ((repeat (first | with_reducible exact Tk.here | with_reducible apply Tk.there)); done) | ((repeat (first | exact Tk.here | apply Tk.there)); done))) | apply Sb.drop)) h)
        · -- else
          rw [if_neg (by rw [h5]; exact Bool.false_ne_true)] at hro
          exact WC.skip <| WX.blockN <| WX.thenN <| WC.region <| sv (vmI rfl) <| sv (vadd rfl rfl (by omega)) <| sv (vaI rfl) <| WL.nil <| WX.again ((i + 1, d)) (⟨by omega, hnx.trans hro⟩) (by omega) ⟨rfl, trivial⟩ ⟨rfl, rfl, trivial⟩ (fun w h => by have h2 := rv_mono (Nat.le_succ _) (rv_mk hv (Own.sp4 (by repeat' (first | exact Spl.nil | (apply Spl.cons; focus (first | ((repeat (first | with_reducible exact Tk.here | with_reducible apply Tk.there)); done) | ((repeat (first | exact Tk.here | apply Tk.there)); done))))) h)); exact Sb.own (by repeat' (first | with_reducible exact Sb.all | exact Sb.nil | (apply Sb.cons; focus (first | ((repeat (first | with_reducible exact Tk.here | with_reducible apply Tk.there)); done) | ((repeat (first | exact Tk.here | apply Tk.there)); done))) | apply Sb.drop)) h2)
  · -- else
    exact WC.exit <| WX.thenE <| WX.thenE <| WX.blockH <| WX.thenN <| WC.seq <| WC.region <| sv (vmP rfl) <| sv (vaP rfl) <| sv (vaI rfl) <| WL.nil <| WX.thenN <| WC.ret <| WX.ret2 rfl (some (b3, j, d)) (by rw [← List.take_of_length_le (l := recs) (i := i) (by omega)]; exact hred) rfl (fun w h => by rw [← gl]; have h2 := rv_mono hi h; exact Sb.own (by repeat' (first | with_reducible exact Sb.all | exact Sb.nil | (apply Sb.cons; focus (first | ((repeat (first | with_reducible exact Tk.here | with_reducible apply Tk.there)); done) | ((repeat (first | exact Tk.here | apply Tk.there)); done))) | apply Sb.drop)) h2)
end Go.Proofs.YthljpljbpbkkcaaGreatDoor
end
section
set_option linter.unusedVariables false
set_option linter.unusedSimpArgs false
set_option maxRecDepth 4000
namespace Go.Proofs.YthljpljbpbkkcaaGreatDoor
open Go.Sl Go.RowKit Go.Pack Go.Vault Go.Journal

theorem v_put_at {w0 : World} {A : List HProp} {v dk c m : Nat} {d d' : VD} {k : PK} {e : Int} {base : Option Addr} {bs : List UInt8} [hR : Reads w0 A base (u8s bs)] (h : putP k bs d = (d', e)) (hk : PkOk k) (hf : k.flow.size ≤ 4096) (hb : bs.length ≤ 4096) (hm : m ≤ 1700) :
    Fun Tryz.prog w0 40 [.pointer (some ⟨v, 0, none⟩), .string k.flow, .int .i64 k.num, .agg #[.int .i64 k.kind, .int .i64 k.n], .slice base bs.length c] (vcm v dk d m :: A) (Ret w0 (fun _ : Unit => True) (fun _ => .int .i64 e) (fun _ => vcm v dk d' (m + 1) :: A)) := by
  have := v_put_c (w0 := w0) (A := A) (v := v) (dk := dk) (c := c) (m := m) (d := d) (base := base) hk hf hb hm
  rwa [h] at this
theorem v_drop_at {w0 : World} {A : List HProp} {v dk m : Nat} {d d' : VD} {f : ByteArray} {n e : Int} (h : dropP f n d = (d', e)) (hf : f.size ≤ 4096) (hn0 : -9223372036854775808 ≤ n ∧ n ≤ 9223372036854775807) (hm : m ≤ 1700) :
    Fun Tryz.prog w0 42 [.pointer (some ⟨v, 0, none⟩), .string f, .int .i64 n] (vcm v dk d m :: A) (Ret w0 (fun _ : Unit => True) (fun _ => .int .i64 e) (fun _ => vcm v dk d' (m + 1) :: A)) := by
  have := v_drop_c (w0 := w0) (A := A) (v := v) (dk := dk) (m := m) (d := d) hf hn0 hm
  rwa [h] at this
abbrev awF : ByteArray := ByteArray.mk #[102]
abbrev awK : PK := ⟨awF, 1, 2, 3⟩
theorem awK_ok : PkOk awK := ⟨by decide, by decide, by decide, by decide⟩
abbrev awD1 : VD := putD VD.new awK [97, 98]
abbrev awD2 : VD := dropD awD1 awF 2
theorem aw1 : putP awK [97, 98] VD.new = (awD1, 0) := by unfold putP; rw [show whyPut VD.new awK = (0, true) from by decide]; rfl
theorem aw2 : putP awK [99, 100] awD1 = (awD1, 0) := by unfold putP; rw [show whyPut awD1 awK = (0, false) from by decide]; rfl
theorem aw3 : dropP awF 2 awD1 = (awD2, 0) := by unfold dropP; rw [show whyDrop awD1 awF 2 = (0, true) from by decide]; rfl
theorem aw4 : putP awK [] awD2 = (awD2, 7) := by unfold putP; rw [show whyPut awD2 awK = (7, false) from by decide]; rfl
theorem aw5 : awD1.parts awK = some [97, 98] := by decide
theorem aw6 : awD2.parts awK = none := by decide
theorem law_awake {w0 : World} {A : List HProp} : Fun Tryz.prog w0 12 [] A (Ret w0 (fun _ : Unit => True) (fun _ => .bool true) (fun _ => A)) := by
  refine Fun.enter Tryz.func12 rfl Tryz.ntmps12 rfl ?_
  refine WC.seq <| WC.region <| sv (vaB rfl) <| WL.nil <| WX.thenN <| WC.seq <| WC.region <| clx (by repeat' (first | with_reducible exact Sb.all | exact Sb.nil | (apply Sb.cons; focus (first | ((repeat (first | with_reducible exact Tk.here | with_reducible apply Tk.there)); done) | ((repeat (first | exact Tk.here | apply Tk.there)); done))) | apply Sb.drop)) (disk_new) ct6 rfl fun r1 hr1 => ?_
  refine clx (by repeat' (first | with_reducible exact Sb.all | exact Sb.nil | (apply Sb.cons; focus (first | ((repeat (first | with_reducible exact Tk.here | with_reducible apply Tk.there)); done) | ((repeat (first | exact Tk.here | apply Tk.there)); done))) | apply Sb.drop)) (v_open_c) ct10 rfl fun r2 hr2 => ?_
  refine sv vmv <| sv (vex rfl rfl) <| sv (vex rfl rfl) <| sv (vaP rfl) <| sv (vaI rfl) <| WL.nil <| WX.thenN <| WC.seq <| ?_
  refine WC.cutS [(21, .bool false)] [(1, .pointer _)] ⟨rfl, trivial⟩ ?_ fun ρh => ?_
  · -- law.go:39
    exact WC.region <| sv (vmP rfl) <| sv (vpeqF Tryz.underlying33 rfl rfl) <| sv (vmB rfl) <| svg rfl (vmI rfl) <| svg rfl (vF (vne rfl rfl) (by omega)) <| sv (vpkf rfl) <| WL.nil <| WX.mid () trivial ⟨rfl, trivial⟩ ⟨rfl, trivial⟩ (fun _ h => Sb.own (by repeat' (first | with_reducible exact Sb.all | exact Sb.nil | (apply Sb.cons; focus (first | ((repeat (first | with_reducible exact Tk.here | with_reducible apply Tk.there)); done) | ((repeat (first | exact Tk.here | apply Tk.there)); done))) | apply Sb.drop)) h)
  refine WC.ff rfl ?_
  refine WC.skip <| WX.thenN <| WC.seq <| WC.region <| sv (vbd (ps := [(0, (.int .i64 2)), (1, (.int .i64 3))]) (cs := [_, _]) bt46 zt46 rfl (by rfl)) <| alz (cs := [.int .i64 0, .int .i64 0]) zt46 (by rfl) fun b5 => stAp sz46 rfl rfl rfl (by intro v hv; simp only [List.mem_cons, List.not_mem_nil, or_false] at hv; rcases hv with rfl | rfl <;> rfl) rfl <| WL.nil <| WX.thenN <| WC.seq <| WC.region <| sv (vmP rfl) <| sv (vldac ag46 sz46 rfl rfl (by decide)) <| bslb [97, 98] rfl Tryz.underlying23 zt5 (by simp [enumP, ev, u8s, u8v]) (by decide) fun b8 => cvm Tryz.underlying23 Tryz.underlying5 rfl <| clx (by repeat' (first | with_reducible exact Sb.all | exact Sb.nil | (apply Sb.cons; focus (first | ((repeat (first | with_reducible exact Tk.here | with_reducible apply Tk.there)); done) | ((repeat (first | exact Tk.here | apply Tk.there)); done))) | apply Sb.drop)) (v_put_at (k := awK) (bs := [97, 98]) aw1 awK_ok (by decide) (by decide) (by decide)) ct40 rfl fun r10 hr10 => ?_
  refine sv (vaI rfl) <| WL.nil <| WX.thenN <| WC.seq <| WC.region <| sv (vmP rfl) <| sv (vldac ag46 sz46 rfl rfl (by decide)) <| bslb [99, 100] rfl Tryz.underlying23 zt5 (by simp [enumP, ev, u8s, u8v]) (by decide) fun b12 => cvm Tryz.underlying23 Tryz.underlying5 rfl <| clx (by repeat' (first | with_reducible exact Sb.all | exact Sb.nil | (apply Sb.cons; focus (first | ((repeat (first | with_reducible exact Tk.here | with_reducible apply Tk.there)); done) | ((repeat (first | exact Tk.here | apply Tk.there)); done))) | apply Sb.drop)) (v_put_at (k := awK) (bs := [99, 100]) aw2 awK_ok (by decide) (by decide) (by decide)) ct40 rfl fun r14 hr14 => ?_
  refine sv (vaI rfl) <| WL.nil <| WX.thenN <| WC.seq <| WC.region <| sv (vmP rfl) <| sv (vldac ag46 sz46 rfl rfl (by decide)) <| clx (by repeat' (first | with_reducible exact Sb.all | exact Sb.nil | (apply Sb.cons; focus (first | ((repeat (first | with_reducible exact Tk.here | with_reducible apply Tk.there)); done) | ((repeat (first | exact Tk.here | apply Tk.there)); done))) | apply Sb.drop)) (v_gets_c (k := awK) awK_ok aw5) ct41 rfl fun r16 hr16 => ?_
  refine sv vmv <| sv (vex rfl rfl) <| sv (vex rfl rfl) <| sv (vaS rfl) <| sv (vaI rfl) <| WL.nil <| WX.thenN <| WC.seq <| WC.region <| sv (vmP rfl) <| clx (by repeat' (first | with_reducible exact Sb.all | exact Sb.nil | (apply Sb.cons; focus (first | ((repeat (first | with_reducible exact Tk.here | with_reducible apply Tk.there)); done) | ((repeat (first | exact Tk.here | apply Tk.there)); done))) | apply Sb.drop)) (v_drop_at aw3 (by decide) (by decide) (by decide)) ct42 rfl fun r17 hr17 => ?_
  refine sv (vaI rfl) <| WL.nil <| WX.thenN <| WC.seq <| WC.region <| sv (vmP rfl) <| sv (vldac ag46 sz46 rfl rfl (by decide)) <| clx (by repeat' (first | with_reducible exact Sb.all | exact Sb.nil | (apply Sb.cons; focus (first | ((repeat (first | with_reducible exact Tk.here | with_reducible apply Tk.there)); done) | ((repeat (first | exact Tk.here | apply Tk.there)); done))) | apply Sb.drop)) (v_getn_c (k := awK) awK_ok aw6) ct41 rfl fun r19 hr19 => ?_
  refine sv vmv <| sv (vex rfl rfl) <| sv (vex rfl rfl) <| sv (vaS rfl) <| sv (vaI rfl) <| WL.nil <| WX.thenN <| ?_
  refine WC.cut0 [(0, .bool true)] [] (A) trivial ?_ fun ρh => ?_
  · -- law.go:48
    refine WC.region <| sv (vmI rfl) <| sv (vT (veq rfl rfl) (by omega)) <| sv (vmB rfl) <| svg rfl (vmI rfl) <| svg rfl (vT (veq rfl rfl) (by omega)) <| sv (vpkt rfl) <| sv (vmB rfl) <| svg rfl (vmS rfl) <| svg rfl (vstr (bs := [97, 98]) Tryz.underlying23 Tryz.underlying5 Tryz.underlying9 rfl reads rfl) <| svg rfl (vT (veqs rfl rfl) (rfl)) <| sv (vpkt rfl) <| sv (vmB rfl) <| svg rfl (vmI rfl) <| svg rfl (vT (veq rfl rfl) (by omega)) <| sv (vpkt rfl) <| sv (vmB rfl) <| svg rfl (vmI rfl) <| svg rfl (vT (veq rfl rfl) (by omega)) <| sv (vpkt rfl) <| sv (vmB rfl) <| svg rfl (vmI rfl) <| svg rfl (vT (veq rfl rfl) (by omega)) <| sv (vpkt rfl) <| sv (vmB rfl) <| svg rfl (vmP rfl) <| svg rfl (vldac ag46 sz46 rfl rfl (by decide)) <| gy rfl <| clx (by repeat' (first | with_reducible exact Sb.all | exact Sb.nil | (apply Sb.cons; focus (first | ((repeat (first | with_reducible exact Tk.here | with_reducible apply Tk.there)); done) | ((repeat (first | exact Tk.here | apply Tk.there)); done))) | apply Sb.drop)) (v_put_at (k := awK) (bs := []) (base := none) (c := 0) (hR := ⟨RdC.nil⟩) aw4 awK_ok (by decide) (by decide) (by decide)) ct40 rfl fun r22 hr22 => ?_
    exact svg rfl (vT (veq rfl rfl) (by omega)) <| sv (vpkt rfl) <| sv (vaB rfl) <| WL.nil <| WX.mid () trivial ⟨rfl, trivial⟩ trivial (fun _ h => Sb.own (by repeat' (first | with_reducible exact Sb.all | exact Sb.nil | (apply Sb.cons; focus (first | ((repeat (first | with_reducible exact Tk.here | with_reducible apply Tk.there)); done) | ((repeat (first | exact Tk.here | apply Tk.there)); done))) | apply Sb.drop)) h)
  exact WC.ret <| WX.ret1 rfl (()) (trivial) rfl (fun _ h => Sb.own (by repeat' (first | with_reducible exact Sb.all | exact Sb.nil | (apply Sb.cons; focus (first | ((repeat (first | with_reducible exact Tk.here | with_reducible apply Tk.there)); done) | ((repeat (first | exact Tk.here | apply Tk.there)); done))) | apply Sb.drop)) h)
theorem v_open_nil {w0 : World} {A : List HProp} : Fun Tryz.prog w0 10 [.pointer none] A (Ret w0 (fun _ : Unit => True) (fun _ => .tuple #[.pointer none, .int .i64 3]) (fun _ => A)) := by
  refine Fun.enter Tryz.func10 rfl Tryz.ntmps10 rfl ?_
  refine WC.seq <| WC.region <| sv (vaP rfl) <| sv (vaI rfl) <| WL.nil <| WX.thenN <| WC.seq <| WC.region <| sv (vmP rfl) <| clx (by repeat' (first | with_reducible exact Sb.all | exact Sb.nil | (apply Sb.cons; focus (first | ((repeat (first | with_reducible exact Tk.here | with_reducible apply Tk.there)); done) | ((repeat (first | exact Tk.here | apply Tk.there)); done))) | apply Sb.drop)) (journal_open_nil) ct36 rfl fun r1 hr1 => ?_
  refine sv vmv <| sv (vex rfl rfl) <| sv (vex rfl rfl) <| sv (vex rfl rfl) <| sv (vaP rfl) <| sv (vaS rfl) <| sv (vaI rfl) <| WL.nil <| WX.thenN <| WC.seq <| WC.seq <| WC.region <| sv (vmI rfl) <| sv (vne rfl rfl) <| WL.nil <| WX.thenN <| ?_
  refine WC.ite rfl (fun h1 => ?_) (fun h1 => ?_)
  · -- then
    exact WC.seq <| WC.region <| sv (vmI rfl) <| sv (vaP rfl) <| sv (vaI rfl) <| WL.nil <| WX.thenN <| WC.ret <| WX.thenR <| WX.ret2 rfl (()) (trivial) rfl (fun _ h => Sb.own (by repeat' (first | with_reducible exact Sb.all | exact Sb.nil | (apply Sb.cons; focus (first | ((repeat (first | with_reducible exact Tk.here | with_reducible apply Tk.there)); done) | ((repeat (first | exact Tk.here | apply Tk.there)); done))) | apply Sb.drop)) h)
  · -- else
    exact absurd (show (3 : Int) ≠ 0 by decide) h1
theorem v_put_nil {w0 : World} {A : List HProp} {f : ByteArray} {n k q : Int} {b : Option Addr} {l c : Nat} : Fun Tryz.prog w0 40 [.pointer none, .string f, .int .i64 n, .agg #[.int .i64 k, .int .i64 q], .slice b l c] A (Ret w0 (fun _ : Unit => True) (fun _ => .int .i64 3) (fun _ => A)) := by
  refine Fun.enter Tryz.func40 rfl Tryz.ntmps40 rfl ?_
  refine WC.seq <| WC.region <| bxc (v := .pointer _) (cs := [.pointer _]) rfl rfl fun b1 => bxc (v := .agg _) (cs := [.int _ _, .int _ _]) rfl rfl fun b2 => bxc (v := .slice _ _ _) (cs := [.slice _ _ _]) rfl rfl fun b3 => sv (vaI rfl) <| WL.nil <| WX.thenN <| WC.seq <| WC.seq <| WC.region <| sv (vldc pl33 rfl) <| sv (vpeqT Tryz.underlying33 rfl rfl) <| WL.nil <| WX.thenN <| ?_
  refine WC.tt rfl ?_
  exact WC.seq <| WC.region <| sv (vaI rfl) <| WL.nil <| WX.thenN <| WC.ret <| WX.thenR <| WX.ret1 rfl (()) (trivial) rfl (fun _ h => Sb.own (by repeat' (first | with_reducible exact Sb.all | exact Sb.nil | (apply Sb.cons; focus (first | ((repeat (first | with_reducible exact Tk.here | with_reducible apply Tk.there)); done) | ((repeat (first | exact Tk.here | apply Tk.there)); done))) | apply Sb.drop)) h)
theorem v_drop_nil {w0 : World} {A : List HProp} {f : ByteArray} {n : Int} : Fun Tryz.prog w0 42 [.pointer none, .string f, .int .i64 n] A (Ret w0 (fun _ : Unit => True) (fun _ => .int .i64 3) (fun _ => A)) := by
  refine Fun.enter Tryz.func42 rfl Tryz.ntmps42 rfl ?_
  refine WC.seq <| WC.region <| bxc (v := .pointer _) (cs := [.pointer _]) rfl rfl fun b1 => bxc (v := .string _) (cs := [.string _]) rfl rfl fun b2 => bxc (v := .int _ _) (cs := [.int _ _]) rfl rfl fun b3 => sv (vaI rfl) <| WL.nil <| WX.thenN <| WC.seq <| WC.seq <| WC.region <| sv (vldc pl33 rfl) <| sv (vpeqT Tryz.underlying33 rfl rfl) <| WL.nil <| WX.thenN <| ?_
  refine WC.tt rfl ?_
  exact WC.seq <| WC.region <| sv (vaI rfl) <| WL.nil <| WX.thenN <| WC.ret <| WX.thenR <| WX.ret1 rfl (()) (trivial) rfl (fun _ h => Sb.own (by repeat' (first | with_reducible exact Sb.all | exact Sb.nil | (apply Sb.cons; focus (first | ((repeat (first | with_reducible exact Tk.here | with_reducible apply Tk.there)); done) | ((repeat (first | exact Tk.here | apply Tk.there)); done))) | apply Sb.drop)) h)
theorem v_get_nil {w0 : World} {A : List HProp} {f : ByteArray} {n k q : Int} : Fun Tryz.prog w0 41 [.pointer none, .string f, .int .i64 n, .agg #[.int .i64 k, .int .i64 q]] A (Ret w0 (fun _ : Unit => True) (fun _ => .tuple #[.slice none 0 0, .int .i64 3]) (fun _ => A)) := by
  refine Fun.enter Tryz.func41 rfl Tryz.ntmps41 rfl ?_
  refine WC.seq <| WC.region <| bxc (v := .agg _) (cs := [.int _ _, .int _ _]) rfl rfl fun b1 => sv (vaS rfl) <| sv (vaI rfl) <| WL.nil <| WX.thenN <| WC.seq <| WC.seq <| WC.region <| sv (vmP rfl) <| sv (vpeqT Tryz.underlying33 rfl rfl) <| WL.nil <| WX.thenN <| ?_
  refine WC.tt rfl ?_
  exact WC.seq <| WC.region <| sv (vaS rfl) <| sv (vaI rfl) <| WL.nil <| WX.thenN <| WC.ret <| WX.thenR <| WX.ret2 rfl (()) (trivial) rfl (fun _ h => Sb.own (by repeat' (first | with_reducible exact Sb.all | exact Sb.nil | (apply Sb.cons; focus (first | ((repeat (first | with_reducible exact Tk.here | with_reducible apply Tk.there)); done) | ((repeat (first | exact Tk.here | apply Tk.there)); done))) | apply Sb.drop)) h)
theorem v_whole_nil {w0 : World} {A : List HProp} {f : ByteArray} {n k : Int} : Fun Tryz.prog w0 50 [.pointer none, .string f, .int .i64 n, .int .i64 k] A (Ret w0 (fun _ : Unit => True) (fun _ => .bool false) (fun _ => A)) := by
  refine Fun.enter Tryz.func50 rfl Tryz.ntmps50 rfl ?_
  refine WC.seq <| WC.region <| bxc (v := .pointer _) (cs := [.pointer _]) rfl rfl fun b1 => bxc (v := .string _) (cs := [.string _]) rfl rfl fun b2 => bxc (v := .int _ _) (cs := [.int _ _]) rfl rfl fun b3 => sv (vaB rfl) <| WL.nil <| WX.thenN <| WC.seq <| ?_
  refine WC.cutS [(21, .bool true)] [(3, .int _ _), (4, _), (5, _), (6, _)] ⟨rfl, rfl, rfl, rfl, trivial⟩ ?_ fun ρh => ?_
  · -- vault.go:160
    exact WC.region <| sv (vldc pl33 rfl) <| sv (vpeqT Tryz.underlying33 rfl rfl) <| sv (vmB rfl) <| sng rfl <| sng rfl <| sv (vpkt rfl) <| sv (vmB rfl) <| sng rfl <| sng rfl <| sv (vpkt rfl) <| WL.nil <| WX.mid () trivial ⟨rfl, trivial⟩ ⟨rfl, rfl, rfl, rfl, trivial⟩ (fun _ h => Sb.own (by repeat' (first | with_reducible exact Sb.all | exact Sb.nil | (apply Sb.cons; focus (first | ((repeat (first | with_reducible exact Tk.here | with_reducible apply Tk.there)); done) | ((repeat (first | exact Tk.here | apply Tk.there)); done))) | apply Sb.drop)) h)
  refine WC.tt rfl ?_
  exact WC.seq <| WC.region <| sv (vaB rfl) <| WL.nil <| WX.thenN <| WC.ret <| WX.thenR <| WX.ret1 rfl (()) (trivial) rfl (fun _ h => Sb.own (by repeat' (first | with_reducible exact Sb.all | exact Sb.nil | (apply Sb.cons; focus (first | ((repeat (first | with_reducible exact Tk.here | with_reducible apply Tk.there)); done) | ((repeat (first | exact Tk.here | apply Tk.there)); done))) | apply Sb.drop)) h)
theorem v_numbers_nil {w0 : World} {A : List HProp} {f : ByteArray} : Fun Tryz.prog w0 52 [.pointer none, .string f] A (Ret w0 (fun _ : Unit => True) (fun _ => .slice none 0 0) (fun _ => A)) := by
  refine Fun.enter Tryz.func52 rfl Tryz.ntmps52 rfl ?_
  refine WC.seq <| WC.region <| sv (vaS rfl) <| WL.nil <| WX.thenN <| WC.seq <| WC.seq <| WC.region <| sv (vmP rfl) <| sv (vpeqT Tryz.underlying33 rfl rfl) <| WL.nil <| WX.thenN <| ?_
  refine WC.tt rfl ?_
  exact WC.seq <| WC.region <| sv (vaS rfl) <| WL.nil <| WX.thenN <| WC.ret <| WX.thenR <| WX.ret1 rfl (()) (trivial) rfl (fun _ h => Sb.own (by repeat' (first | with_reducible exact Sb.all | exact Sb.nil | (apply Sb.cons; focus (first | ((repeat (first | with_reducible exact Tk.here | with_reducible apply Tk.there)); done) | ((repeat (first | exact Tk.here | apply Tk.there)); done))) | apply Sb.drop)) h)
end Go.Proofs.YthljpljbpbkkcaaGreatDoor
end
section
set_option linter.unusedVariables false
set_option linter.unusedSimpArgs false
set_option maxRecDepth 4000
namespace Go.Proofs.YthljpljbpbkkcaaGreatDoor
open Go.Sl Go.RowKit Go.Pack Go.Vault Go.Journal

abbrev AV := Int × Int × Int × ByteArray × (Int × Int × Unit) × Sla UInt8 × Unit
abbrev AV.k (a : AV) : PK := ⟨a.2.2.2.1, a.2.1, a.2.2.2.2.1.1, a.2.2.2.2.1.2.1⟩
abbrev AV.b (a : AV) : Sla UInt8 := a.2.2.2.2.2.1
abbrev vcel (k n q : Int) (f : ByteArray) (pk pn : Int) (b : Sla UInt8) : List Value := [.int .i64 k, .int .i64 n, .int .i64 q, .string f, .int .i64 pk, .int .i64 pn, .slice b.base b.xs.length b.cap]
abbrev cellV (a : AV) : List Value := vcel a.1 a.2.1 a.2.2.1 a.2.2.2.1 a.2.2.2.2.1.1 a.2.2.2.2.1.2.1 a.2.2.2.2.2.1
abbrev gV (w : World) (a : AV) : Prop := PkOk a.k ∧ Rd w a.b.base (u8s a.b.xs)
theorem rd_someV {w0 w : World} {A : List HProp} {base : Option Addr} {vs : List Value} (hp : 0 < vs.length) (hR : RdC w0 A base vs) (h : Own w0 A w) : base.isSome = true := by
  obtain ⟨a, rfl, _⟩ := hR w h 0 vs[0] (List.getElem?_eq_getElem hp)
  rfl
theorem drop_getD {l m : List UInt8} {i : Nat} (h : l.drop i = m.drop i) : l.getD i 0 = m.getD i 0 := by
  have := congrArg (fun x => x[0]?.getD 0) h
  simpa [List.getElem?_drop] using this
theorem u8s_set0 {l : List UInt8} {j : Nat} {c : UInt8} : (u8s l).set j (u8v c) = u8s (l.set j c) := by simp [u8s]
theorem u8s_len (l : List UInt8) : (u8s l).length = l.length := by simp [u8s]
theorem law_small {w0 : World} {A : List HProp} {o : Sla AV} (ho : Rd w0 o.base (o.xs.flatMap cellV)) :
    Fun Tryz.prog w0 14 [.slice o.base o.xs.length o.cap] A (Ret w0 (fun _ : Unit => True) (fun _ => .bool (decide (o.xs.length ≤ 120 ∧ ∀ a ∈ o.xs, a.b.xs.length ≤ 256 ∧ a.k.flow.size ≤ 64))) (fun _ => A)) := by
  have hfl : (o.xs.flatMap cellV).length = o.xs.length * 7 := flat_len (fun _ _ => rfl)
  refine Fun.enter Tryz.func14 rfl Tryz.ntmps14 rfl ?_
  refine WC.seq <| WC.region <| sv (vaB rfl) <| WL.nil <| WX.thenN <| WC.seq <| WC.seq <| WC.region <| sv (vmS rfl) <| sv (vlen Tryz.underlying42 rfl) <| sv (vgt rfl rfl) <| WL.nil <| WX.thenN <| ?_
  refine WC.ite rfl (fun h1 => ?_) (fun h1 => ?_)
  · -- then
    exact WC.seq <| WC.region <| sv (vaB rfl) <| WL.nil <| WX.thenN <| WC.ret <| WX.thenR <| WX.ret1 rfl (()) (trivial) (bF (fun h => by omega)) (fun _ h => Sb.own (by repeat' (first | with_reducible exact Sb.all | exact Sb.nil | (apply Sb.cons; focus (first | ((repeat (first | with_reducible exact Tk.here | with_reducible apply Tk.there)); done) | ((repeat (first | exact Tk.here | apply Tk.there)); done))) | apply Sb.drop)) h)
  · -- else
    refine WC.skip <| WX.thenN <| WC.seq <| WC.seq <| WC.region <| sv (vaI rfl) <| WL.nil <| WX.thenN <| WC.block <| ?_
    refine WC.loopS (ι := Nat) (fun i => [(3, .int .i64 i)]) [(0, .slice _ _ _)] (fun i => i ≤ o.xs.length ∧ ∀ a ∈ o.xs.take i, a.b.xs.length ≤ 256 ∧ a.k.flow.size ≤ 64) (fun i => o.xs.length - i) (0) (⟨Nat.zero_le _, fun a h => by rw [List.take_zero] at h; cases h⟩) ⟨rfl, trivial⟩ ⟨rfl, trivial⟩ ?_
    intro i hi ρh
    refine WC.seq <| WC.seq <| WC.region <| sv (vmI rfl) <| sv (vmS rfl) <| sv (vlen Tryz.underlying42 rfl) <| sv (vlt rfl rfl) <| WL.nil <| WX.thenN <| ?_
    refine WC.ite rfl (fun h2 => ?_) (fun h2 => ?_)
    · -- then
      have hil : i < o.xs.length := by omega
      obtain ⟨a, ha⟩ : ∃ a, o.xs[i]? = some a := ⟨_, List.getElem?_eq_getElem hil⟩
      have hpos : 0 < (o.xs.flatMap cellV).length := by omega
      have hf5 : (o.xs.flatMap cellV)[((i : Int)).toNat * 7 + 6]? = some (.slice a.b.base a.b.xs.length a.b.cap) := by rw [Int.toNat_natCast, flat_at (f := cellV) (s := 7) (fun _ _ => rfl) hil (by omega), (List.getElem?_eq_some_iff.1 ha).2]; rfl
      have hf3 : (o.xs.flatMap cellV)[((i : Int)).toNat * 7 + 3]? = some (.string a.k.flow) := by rw [Int.toNat_natCast, flat_at (f := cellV) (s := 7) (fun _ _ => rfl) hil (by omega), (List.getElem?_eq_some_iff.1 ha).2]; rfl
      have hRi : Reads w0 A o.base (o.xs.flatMap cellV) := ⟨RdC.old ho⟩
      refine WC.known (fun w h => rd_someV hpos hRi.rd h) fun hb => ?_
      refine WC.skip <| WX.thenN <| WC.seq <| WC.block <| ?_
      refine WC.cutS [(28, .bool (decide (¬ (a.b.xs.length ≤ 256 ∧ a.k.flow.size ≤ 64))))] [(0, .slice _ _ _), (3, .int _ _)] ⟨rfl, rfl, trivial⟩ ?_ fun ρh => ?_
      · -- law.go:29
        refine WC.region <| sv (vmS rfl) <| sv (vmI rfl) <| sv (vix Tryz.underlying42 sz48 rfl rfl (by omega) (by omega) reads (hpos)) <| sv (vfldr (hb) fl48f5 rfl) <| sv (vldo pl23 rfl reads (hf5)) <| sv (vlen Tryz.underlying23 rfl) <| svs (vgt rfl rfl) (fun q1 => ?_) (fun q1 => ?_)
        ·
          exact sv (vmB rfl) <| sng rfl <| sng rfl <| sng rfl <| sng rfl <| sng rfl <| sng rfl <| sng rfl <| sv (vpkt rfl) <| WL.nil <| WX.mid () trivial ⟨bT (by first | omega | simp_all | grind), trivial⟩ ⟨rfl, rfl, trivial⟩ (fun _ h => Sb.own (by repeat' (first | with_reducible exact Sb.all | exact Sb.nil | (apply Sb.cons; focus (first | ((repeat (first | with_reducible exact Tk.here | with_reducible apply Tk.there)); done) | ((repeat (first | exact Tk.here | apply Tk.there)); done))) | apply Sb.drop)) h)
        ·
          exact sv (vmB rfl) <| svg rfl (vmS rfl) <| svg rfl (vmI rfl) <| svg rfl (vix Tryz.underlying42 sz48 rfl rfl (by omega) (by omega) reads (hpos)) <| svg rfl (vfldr (hb) fl48f3 rfl) <| svg rfl (vldo pl9 rfl reads (hf3)) <| svg rfl (vlens Tryz.underlying9 rfl) <| svg rfl (vgt rfl rfl) <| sv (vpkf rfl) <| WL.nil <| WX.mid () trivial ⟨bI (by first | omega | simp_all | grind), trivial⟩ ⟨rfl, rfl, trivial⟩ (fun _ h => Sb.own (by repeat' (first | with_reducible exact Sb.all | exact Sb.nil | (apply Sb.cons; focus (first | ((repeat (first | with_reducible exact Tk.here | with_reducible apply Tk.there)); done) | ((repeat (first | exact Tk.here | apply Tk.there)); done))) | apply Sb.drop)) h)
      refine WC.iteb rfl (fun h3 => ?_) (fun h3 => ?_)
      · -- then
        exact WC.seq <| WC.region <| sv (vaB rfl) <| WL.nil <| WX.thenN <| WC.ret <| WX.blockR <| WX.thenR <| WX.thenR <| WX.blockR <| WX.thenR <| WX.ret1 rfl (()) (trivial) (bF (fun h => by exact of_decide_eq_true h3 (h.2 a (List.mem_of_getElem? ha)))) (fun _ h => Sb.own (by repeat' (first | with_reducible exact Sb.all | exact Sb.nil | (apply Sb.cons; focus (first | ((repeat (first | with_reducible exact Tk.here | with_reducible apply Tk.there)); done) | ((repeat (first | exact Tk.here | apply Tk.there)); done))) | apply Sb.drop)) h)
      · -- else
        exact WC.skip <| WX.blockN <| WX.thenN <| WC.region <| sv (vmI rfl) <| sv (vadd rfl rfl (by omega)) <| sv (vaI rfl) <| WL.nil <| WX.again (i + 1) (⟨by omega, fun c hc => by rw [List.take_add_one, ha] at hc; exact (List.mem_append.1 hc).elim (hi.2 c) (fun hc => by have : c = a := (by simpa using hc); subst this; exact Decidable.not_not.1 (of_decide_eq_false h3))⟩) (by omega) ⟨rfl, trivial⟩ ⟨rfl, trivial⟩ (fun _ h => Sb.own (by repeat' (first | with_reducible exact Sb.all | exact Sb.nil | (apply Sb.cons; focus (first | ((repeat (first | with_reducible exact Tk.here | with_reducible apply Tk.there)); done) | ((repeat (first | exact Tk.here | apply Tk.there)); done))) | apply Sb.drop)) h)
    · -- else
      exact WC.exit <| WX.thenE <| WX.thenE <| WX.blockH <| WX.thenN <| WC.seq <| WC.region <| sv (vaB rfl) <| WL.nil <| WX.thenN <| WC.ret <| WX.ret1 rfl (()) (trivial) (bT ⟨by omega, by have := hi.2; rwa [List.take_of_length_le (by omega)] at this⟩) (fun _ h => Sb.own (by repeat' (first | with_reducible exact Sb.all | exact Sb.nil | (apply Sb.cons; focus (first | ((repeat (first | with_reducible exact Tk.here | with_reducible apply Tk.there)); done) | ((repeat (first | exact Tk.here | apply Tk.there)); done))) | apply Sb.drop)) h)
def callP (kind : Int) (k : PK) (b : List UInt8) (d : VD) : VD × Int := if kind = 2 then dropP k.flow k.num d else putP k b d
theorem v_put_l {w0 : World} {A : List HProp} {v dk c m l : Nat} {d d' : VD} {k : PK} {e : Int} {base : Option Addr} {bs : List UInt8} [hR : Reads w0 A base (u8s bs)] (hl : l = bs.length) (h : putP k bs d = (d', e)) (hk : PkOk k) (hf : k.flow.size ≤ 4096) (hb : bs.length ≤ 4096) (hm : m ≤ 1700) :
    Fun Tryz.prog w0 40 [.pointer (some ⟨v, 0, none⟩), .string k.flow, .int .i64 k.num, .agg #[.int .i64 k.kind, .int .i64 k.n], .slice base l c] (vcm v dk d m :: A) (Ret w0 (fun _ : Unit => True) (fun _ => .int .i64 e) (fun _ => vcm v dk d' (m + 1) :: A)) := by subst hl; exact v_put_at h hk hf hb hm
theorem law_callx {w0 : World} {A : List HProp} {v dk m : Nat} {kind n q pk pn : Int} {f : ByteArray} {b : Sla UInt8} {d d' : VD} {e : Int} (h : callP kind ⟨f, n, pk, pn⟩ b.xs d = (d', e)) (hk : PkOk ⟨f, n, pk, pn⟩) (hf : f.size ≤ 4096) (hb : b.xs.length ≤ 4096) (hm : m ≤ 1700) (hR : RdC w0 A b.base (u8s b.xs)) :
    Fun Tryz.prog w0 16 [.pointer (some ⟨v, 0, none⟩), .agg (vcel kind n q f pk pn b).toArray] (vcm v dk d m :: A) (Ret w0 (fun _ : Unit => True) (fun _ => .int .i64 e) (fun _ => vcm v dk d' (m + 1) :: A)) := by
  refine Fun.enter Tryz.func16 rfl Tryz.ntmps16 rfl ?_
  refine WC.seq <| WC.region <| bxc (v := .agg _) (cs := [.int _ _, .int _ _, .int _ _, .string _, .int _ _, .int _ _, .slice _ _ _]) rfl rfl fun b1 => sv (vaI rfl) <| WL.nil <| WX.thenN <| WC.seq <| WC.seq <| WC.region <| sv (vfldpz fl48f0 rfl) <| sv (vldc pl3 rfl) <| sv (veq rfl rfl) <| WL.nil <| WX.thenN <| ?_
  refine WC.ite rfl (fun h1 => ?_) (fun h1 => ?_)
  · -- then
    have hd : dropP f n d = (d', e) := by rw [← h]; unfold callP; rw [if_pos h1]
    refine WC.seq <| WC.region <| sv (vmP rfl) <| sv (vfldp fl48f3 rfl) <| sv (vldc pl9 rfl) <| sv (vfldp fl48f1 rfl) <| sv (vldc pl3 rfl) <| clx (by repeat' (first | with_reducible exact Sb.all | exact Sb.nil | (apply Sb.cons; focus (first | ((repeat (first | with_reducible exact Tk.here | with_reducible apply Tk.there)); done) | ((repeat (first | exact Tk.here | apply Tk.there)); done))) | apply Sb.drop)) (v_drop_at hd hf hk.num hm) ct42 rfl fun r5 hr5 => ?_
    exact sv (vaI rfl) <| WL.nil <| WX.thenN <| WC.ret <| WX.thenR <| WX.ret1 rfl (()) (trivial) rfl (fun _ h => Sb.own (by repeat' (first | with_reducible exact Sb.all | exact Sb.nil | (apply Sb.cons; focus (first | ((repeat (first | with_reducible exact Tk.here | with_reducible apply Tk.there)); done) | ((repeat (first | exact Tk.here | apply Tk.there)); done))) | apply Sb.drop)) h)
  · -- else
    have hd : putP ⟨f, n, pk, pn⟩ b.xs d = (d', e) := by rw [← h]; unfold callP; rw [if_neg h1]
    refine WC.skip <| WX.thenN <| WC.seq <| WC.region <| bsl0 Tryz.underlying23 zt5 fun b6 => sv (vfldp fl48f5 rfl) <| sv (vldc pl23 rfl) <| pm (fun _ h => (show Own w0 (row (some ⟨b6, 0, none⟩) 0 1 5 (u8s []) :: cel b1 (vcel kind n q f pk pn b) 48 :: vcm v dk d m :: A) _ from h)) <| apb Tryz.underlying23 zt5 rfl rfl rfl rfl (hR.mono fun _ h => h.tail.tail.tail) (by omega) fun base8 c8 hc8 =>sv (vaS rfl) <| WL.nil <| WX.thenN <| WC.seq <| WC.region <| sv (vmP rfl) <| sv (vfldp fl48f3 rfl) <| sv (vldc pl9 rfl) <| sv (vfldp fl48f1 rfl) <| sv (vldc pl3 rfl) <| sv (vfldp fl48f4 rfl) <| sv (vldap ag46 sz46 rfl (cs := [.int .i64 pk, .int .i64 pn]) rfl rfl (by decide)) <| sv (vmS rfl) <| clx (by repeat' (first | with_reducible exact Sb.all | exact Sb.nil | (apply Sb.cons; focus (first | ((repeat (first | with_reducible exact Tk.here | with_reducible apply Tk.there)); done) | ((repeat (first | exact Tk.here | apply Tk.there)); done))) | apply Sb.drop)) (v_put_l (k := ⟨f, n, pk, pn⟩) (bs := b.xs) (by simp) hd hk hf hb hm) ct40 rfl fun r12 hr12 => ?_
    refine sv (vaI rfl) <| WL.nil <| WX.thenN <| WC.seq <| WC.seq <| WC.region <| sv (vaI rfl) <| WL.nil <| WX.thenN <| WC.block <| ?_
    refine WC.loop (ι := Nat × List UInt8) (fun i => [(7, .int .i64 i.1)]) [(3, _), (5, .slice _ _ _), (6, .int _ _)] (fun i => row base8 c8 1 5 (u8s i.2) :: vcm v dk d' (m + 1) :: cel b1 (vcel kind n q f pk pn b) 48 :: A) (fun i => i.1 ≤ b.xs.length ∧ i.2.length = b.xs.length ∧ i.2.drop i.1 = b.xs.drop i.1) (fun i => b.xs.length - i.1) ((0, b.xs)) (⟨Nat.zero_le _, rfl, rfl⟩) ⟨rfl, trivial⟩ ⟨rfl, rfl, rfl, trivial⟩ (fun _ h => Sb.own (by repeat' (first | with_reducible exact Sb.all | exact Sb.nil | (apply Sb.cons; focus (first | ((repeat (first | with_reducible exact Tk.here | with_reducible apply Tk.there)); done) | ((repeat (first | exact Tk.here | apply Tk.there)); done))) | apply Sb.drop)) h) ?_
    rintro ⟨i, l⟩ ⟨hi1, hi2, hi3⟩ ρh
    dsimp only at hi1 hi2 hi3 ⊢
    refine WC.seq <| WC.seq <| WC.region <| sv (vmI rfl) <| sv (vmS rfl) <| sv (vlen Tryz.underlying23 rfl) <| sv (vlt rfl rfl) <| WL.nil <| WX.thenN <| ?_
    refine WC.ite rfl (fun h2 => ?_) (fun h2 => ?_)
    · -- then
      refine WC.skip <| WX.thenN <| WC.seq <| WC.block <| WC.seq <| WC.seq <| WC.draws rfl (by kernel_rfl) <| qv (vmS rfl) <| qv (vmI rfl) <| qv (vix1 Tryz.underlying23 sz5 rfl rfl (by omega) (by omega) (RdC.of_row (c := c8) (s := 1) (e := 5) (vs := u8s l) (by simp)) (by rw [u8s_len]; omega)) <| qv (vldo pl5 rfl (RdC.of_row (c := c8) (s := 1) (e := 5) (vs := u8s l) (by simp)) (u8s_getD (by omega))) <| qv (vfldp fl48f5 rfl) <| qv (vldc pl23 rfl) <| qv (vmI rfl) <| qv (vix1 Tryz.underlying23 sz5 rfl rfl (by omega) (by omega) (hR.mono fun _ h => h.tail.tail.tail) (by rw [u8s_len]; omega)) <| qv (vldo pl5 rfl (hR.mono fun _ h => h.tail.tail.tail) (u8s_getD (by omega))) <| qv (vne rfl rfl) <| WQ.nil <| WX.thenN <| ?_
      refine WC.ite rfl (fun h3 => ?_) (fun h3 => ?_)
      · -- then
        exact absurd (congrArg (fun c : UInt8 => (c.toNat : Int)) (drop_getD hi3)) h3
      · -- else
        exact WC.skip <| WX.thenN <| WC.region <| sv (vmS rfl) <| sv (vmI rfl) <| sv (vix1 Tryz.underlying23 sz5 rfl rfl (by omega) (by omega) (RdC.of_row (c := c8) (s := 1) (e := 5) (vs := u8s l) (by simp)) (by rw [u8s_len]; omega)) <| strp (v := .int .u8 55) pl5 sz5 rfl rfl rfl (by rw [u8s_len]; omega) <| WL.nil <| WX.blockN <| WX.thenN <| WC.region <| sv (vmI rfl) <| sv (vadd rfl rfl (by omega)) <| sv (vaI rfl) <| WL.nil <| WX.again ((i + 1, l.set i 55)) (⟨by omega, by rw [List.length_set]; exact hi2, by rw [List.drop_set_of_lt (by omega), ← List.drop_drop, hi3, List.drop_drop]⟩) (by omega) ⟨rfl, trivial⟩ ⟨rfl, rfl, rfl, trivial⟩ (fun w h => by rw [← u8s_set0]; exact Sb.own (by repeat' (first | with_reducible exact Sb.all | exact Sb.nil | (apply Sb.cons; focus (first | ((repeat (first | with_reducible exact Tk.here | with_reducible apply Tk.there)); done) | ((repeat (first | exact Tk.here | apply Tk.there)); done))) | apply Sb.drop)) h)
    · -- else
      exact WC.exit <| WX.thenE <| WX.thenE <| WX.blockH <| WX.thenN <| WC.seq <| WC.region <| sv (vmI rfl) <| sv (vaI rfl) <| WL.nil <| WX.thenN <| WC.ret <| WX.ret1 rfl (()) (trivial) rfl (fun _ h => Sb.own (by repeat' (first | with_reducible exact Sb.all | exact Sb.nil | (apply Sb.cons; focus (first | ((repeat (first | with_reducible exact Tk.here | with_reducible apply Tk.there)); done) | ((repeat (first | exact Tk.here | apply Tk.there)); done))) | apply Sb.drop)) h)
theorem law_call {w0 : World} {A : List HProp} {v dk m : Nat} {a : AV} {d d' : VD} {e : Int} (h : callP a.1 a.k a.b.xs d = (d', e)) (hk : PkOk a.k) (hf : a.k.flow.size ≤ 4096) (hb : a.b.xs.length ≤ 4096) (hm : m ≤ 1700) (hR : RdC w0 A a.b.base (u8s a.b.xs)) :
    Fun Tryz.prog w0 16 [.pointer (some ⟨v, 0, none⟩), .agg (cellV a).toArray] (vcm v dk d m :: A) (Ret w0 (fun _ : Unit => True) (fun _ => .int .i64 e) (fun _ => vcm v dk d' (m + 1) :: A)) :=
  law_callx h hk hf hb hm hR
end Go.Proofs.YthljpljbpbkkcaaGreatDoor
end
