/-
  Layer 19's reference: what may be; cells are taken; answers; a mail.
-/
import Derived.Test.YtekoilhjlofncaaRaftRefD
set_option linter.unusedVariables false
set_option linter.unusedSimpArgs false
set_option maxRecDepth 4000
namespace Go.Proofs.Ytekoilhjlofncaa
open Go.Sl Go.RowKit Go.Raft

theorem ref_may {w0 : World} {A : List HProp} {n t v : Int} {l : List Cl} {b : Option Addr} {c : Nat} (hl : l.length ≤ 1099511627776) [hR : Reads w0 A b (cvs l)] :
    Fun Try.prog w0 11 [.int .i64 n, .agg (scells t v b l c).toArray] A (Ret w0 (fun _ : Unit => True) (fun _ => .bool (decide (mayS n t v l))) (fun _ => A)) := by
  refine Fun.enter Try.func11 rfl Try.ntmps11 rfl ?_
  refine WC.seq <| WC.region <| bxc (v := .agg _) (cs := [.int _ _, .int _ _, .slice _ _ _]) rfl rfl fun b1 => sv (vaB rfl) <| WL.nil <| WX.thenN <| ?_
  refine WC.cut0 [(4, .bool (decide (0 ≤ t ∧ t ≤ 1000000000 ∧ 0 ≤ v ∧ v ≤ n ∧ (l.length : Int) ≤ 10000 ∧ rises l 1 t = true)))] [] (cel b1 (scells t v b l c) 24 :: A) trivial ?_ fun ρh => ?_
  · -- ref.go:31
    refine WC.region <| sv (vfldpz fl24f0 rfl) <| sv (vldc pl3 rfl) <| svs (vge rfl rfl) (fun q1 => ?_) (fun q1 => ?_)
    ·
      refine sv (vmB rfl) <| svg rfl (vfldpz fl24f0 rfl) <| svg rfl (vldc pl3 rfl) <| svsg rfl (vle rfl rfl) (fun q2 => ?_) (fun q2 => ?_)
      ·
        refine sv (vpkt rfl) <| sv (vmB rfl) <| svg rfl (vfldp fl24f1 rfl) <| svg rfl (vldc pl3 rfl) <| svsg rfl (vge rfl rfl) (fun q3 => ?_) (fun q3 => ?_)
        ·
          refine sv (vpkt rfl) <| sv (vmB rfl) <| svg rfl (vfldp fl24f1 rfl) <| svg rfl (vldc pl3 rfl) <| svg rfl (vmI rfl) <| svsg rfl (vle rfl rfl) (fun q4 => ?_) (fun q4 => ?_)
          ·
            refine sv (vpkt rfl) <| sv (vmB rfl) <| svg rfl (vfldp fl24f2 rfl) <| svg rfl (vldc pl22 rfl) <| svg rfl (vlen Try.underlying22 rfl) <| svsg rfl (vle rfl rfl) (fun q5 => ?_) (fun q5 => ?_)
            ·
              refine sv (vpkt rfl) <| sv (vmB rfl) <| svg rfl (vfldp fl24f2 rfl) <| svg rfl (vldc pl22 rfl) <| svg rfl (vfldpz fl24f0 rfl) <| svg rfl (vldc pl3 rfl) <| gy rfl <| clx (by repeat' (first | with_reducible exact Sb.all | exact Sb.nil | (apply Sb.cons; focus (first | ((repeat (first | with_reducible exact Tk.here | with_reducible apply Tk.there)); done) | ((repeat (first | exact Tk.here | apply Tk.there)); done))) | apply Sb.drop)) (ref_cells hl) ct34 rfl fun r9 hr9 => ?_
              exact sv (vpkt rfl) <| sv (vaB rfl) <| WL.nil <| WX.mid () trivial ⟨bB ⟨fun h => ⟨by omega, by omega, by omega, by omega, by omega, h⟩, fun h => h.2.2.2.2.2⟩, trivial⟩ trivial (fun _ h => Sb.own (by repeat' (first | with_reducible exact Sb.all | exact Sb.nil | (apply Sb.cons; focus (first | ((repeat (first | with_reducible exact Tk.here | with_reducible apply Tk.there)); done) | ((repeat (first | exact Tk.here | apply Tk.there)); done))) | apply Sb.drop)) h)
            ·
              exact sv (vpkt rfl) <| sv (vmB rfl) <| sng rfl <| sng rfl <| sng rfl <| sng rfl <| sng rfl <| sv (vpkf rfl) <| sv (vaB rfl) <| WL.nil <| WX.mid () trivial ⟨bF (by first | omega | simp_all | grind), trivial⟩ trivial (fun _ h => Sb.own (by repeat' (first | with_reducible exact Sb.all | exact Sb.nil | (apply Sb.cons; focus (first | ((repeat (first | with_reducible exact Tk.here | with_reducible apply Tk.there)); done) | ((repeat (first | exact Tk.here | apply Tk.there)); done))) | apply Sb.drop)) h)
          ·
            exact sv (vpkt rfl) <| sv (vmB rfl) <| sng rfl <| sng rfl <| sng rfl <| sng rfl <| sv (vpkf rfl) <| sv (vmB rfl) <| sng rfl <| sng rfl <| sng rfl <| sng rfl <| sng rfl <| sv (vpkf rfl) <| sv (vaB rfl) <| WL.nil <| WX.mid () trivial ⟨bF (by first | omega | simp_all | grind), trivial⟩ trivial (fun _ h => Sb.own (by repeat' (first | with_reducible exact Sb.all | exact Sb.nil | (apply Sb.cons; focus (first | ((repeat (first | with_reducible exact Tk.here | with_reducible apply Tk.there)); done) | ((repeat (first | exact Tk.here | apply Tk.there)); done))) | apply Sb.drop)) h)
        ·
          exact sv (vpkt rfl) <| sv (vmB rfl) <| sng rfl <| sng rfl <| sng rfl <| sng rfl <| sv (vpkf rfl) <| sv (vmB rfl) <| sng rfl <| sng rfl <| sng rfl <| sng rfl <| sv (vpkf rfl) <| sv (vmB rfl) <| sng rfl <| sng rfl <| sng rfl <| sng rfl <| sng rfl <| sv (vpkf rfl) <| sv (vaB rfl) <| WL.nil <| WX.mid () trivial ⟨bF (by first | omega | simp_all | grind), trivial⟩ trivial (fun _ h => Sb.own (by repeat' (first | with_reducible exact Sb.all | exact Sb.nil | (apply Sb.cons; focus (first | ((repeat (first | with_reducible exact Tk.here | with_reducible apply Tk.there)); done) | ((repeat (first | exact Tk.here | apply Tk.there)); done))) | apply Sb.drop)) h)
      ·
        exact sv (vpkt rfl) <| sv (vmB rfl) <| sng rfl <| sng rfl <| sng rfl <| sv (vpkf rfl) <| sv (vmB rfl) <| sng rfl <| sng rfl <| sng rfl <| sng rfl <| sv (vpkf rfl) <| sv (vmB rfl) <| sng rfl <| sng rfl <| sng rfl <| sng rfl <| sv (vpkf rfl) <| sv (vmB rfl) <| sng rfl <| sng rfl <| sng rfl <| sng rfl <| sng rfl <| sv (vpkf rfl) <| sv (vaB rfl) <| WL.nil <| WX.mid () trivial ⟨bF (by first | omega | simp_all | grind), trivial⟩ trivial (fun _ h => Sb.own (by repeat' (first | with_reducible exact Sb.all | exact Sb.nil | (apply Sb.cons; focus (first | ((repeat (first | with_reducible exact Tk.here | with_reducible apply Tk.there)); done) | ((repeat (first | exact Tk.here | apply Tk.there)); done))) | apply Sb.drop)) h)
    ·
      exact sv (vmB rfl) <| sng rfl <| sng rfl <| sng rfl <| sv (vpkf rfl) <| sv (vmB rfl) <| sng rfl <| sng rfl <| sng rfl <| sv (vpkf rfl) <| sv (vmB rfl) <| sng rfl <| sng rfl <| sng rfl <| sng rfl <| sv (vpkf rfl) <| sv (vmB rfl) <| sng rfl <| sng rfl <| sng rfl <| sng rfl <| sv (vpkf rfl) <| sv (vmB rfl) <| sng rfl <| sng rfl <| sng rfl <| sng rfl <| sng rfl <| sv (vpkf rfl) <| sv (vaB rfl) <| WL.nil <| WX.mid () trivial ⟨bF (by first | omega | simp_all | grind), trivial⟩ trivial (fun _ h => Sb.own (by repeat' (first | with_reducible exact Sb.all | exact Sb.nil | (apply Sb.cons; focus (first | ((repeat (first | with_reducible exact Tk.here | with_reducible apply Tk.there)); done) | ((repeat (first | exact Tk.here | apply Tk.there)); done))) | apply Sb.drop)) h)
  exact WC.ret <| WX.ret1 rfl (()) (trivial) (bI ⟨fun ⟨a, b, c, d, e, f⟩ => ⟨a, b, c, d, by omega, f⟩, fun ⟨a, b, c, d, e, f⟩ => ⟨a, b, c, d, by omega, f⟩⟩) (fun _ h => Sb.own (by repeat' (first | with_reducible exact Sb.all | exact Sb.nil | (apply Sb.cons; focus (first | ((repeat (first | with_reducible exact Tk.here | with_reducible apply Tk.there)); done) | ((repeat (first | exact Tk.here | apply Tk.there)); done))) | apply Sb.drop)) h)
theorem ref_mailmay {w0 : World} {A : List HProp} {x : Rn} {m : Mh} (hml : m.cs.xs.length ≤ 1099511627776) [hR : Reads w0 A m.cs.base (cvs m.cs.xs)] :
    Fun Try.prog w0 49 [.int .i64 x.id, .int .i64 x.n, .agg (mv m).toArray] A (Ret w0 (fun _ : Unit => True) (fun _ => .bool (decide (mailOk x.id x.n m.ml))) (fun _ => A)) := by
  refine Fun.enter Try.func49 rfl Try.ntmps49 rfl ?_
  refine WC.seq <| WC.region <| bxc (v := .agg _) (cs := [.int _ _, .int _ _, .int _ _, .int _ _, .int _ _, .int _ _, .int _ _, .bool _, .slice _ _ _]) rfl rfl fun b1 => sv (vaB rfl) <| WL.nil <| WX.thenN <| WC.seq <| ?_
  refine WC.cut0 [(47, .bool (decide (m.kind < 1 ∨ (4 : Int) < m.kind ∨ m.fr < 1 ∨ x.n < m.fr ∨ m.fr = x.id ∨ m.to_ ≠ x.id ∨ m.term < 1 ∨ (1000000000 : Int) < m.term)))] [(5, _)] (cel b1 (mv m) 28 :: A) ⟨rfl, trivial⟩ ?_ fun ρh => ?_
  · -- ref.go:36
    refine WC.region <| sv (vfldpz fl28f0 rfl) <| sv (vldc pl3 rfl) <| svs (vlt rfl rfl) (fun q1 => ?_) (fun q1 => ?_)
    ·
      exact sv (vmB rfl) <| sng rfl <| sng rfl <| sng rfl <| sv (vpkt rfl) <| sv (vmB rfl) <| sng rfl <| sng rfl <| sng rfl <| sv (vpkt rfl) <| sv (vmB rfl) <| sng rfl <| sng rfl <| sng rfl <| sng rfl <| sv (vpkt rfl) <| sv (vmB rfl) <| sng rfl <| sng rfl <| sng rfl <| sng rfl <| sv (vpkt rfl) <| sv (vmB rfl) <| sng rfl <| sng rfl <| sng rfl <| sng rfl <| sv (vpkt rfl) <| sv (vmB rfl) <| sng rfl <| sng rfl <| sng rfl <| sv (vpkt rfl) <| sv (vmB rfl) <| sng rfl <| sng rfl <| sng rfl <| sv (vpkt rfl) <| WL.nil <| WX.mid () trivial ⟨bT (by first | (unfold prevOk; by_cases ha : m.prev = 0 <;> by_cases hb : m.index = 0 <;> simp [ha, hb] <;> omega) | omega | simp_all | grind), trivial⟩ ⟨rfl, trivial⟩ (fun _ h => Sb.own (by repeat' (first | with_reducible exact Sb.all | exact Sb.nil | (apply Sb.cons; focus (first | ((repeat (first | with_reducible exact Tk.here | with_reducible apply Tk.there)); done) | ((repeat (first | exact Tk.here | apply Tk.there)); done))) | apply Sb.drop)) h)
    ·
      refine sv (vmB rfl) <| svg rfl (vfldpz fl28f0 rfl) <| svg rfl (vldc pl3 rfl) <| svsg rfl (vgt rfl rfl) (fun q2 => ?_) (fun q2 => ?_)
      ·
        exact sv (vpkf rfl) <| sv (vmB rfl) <| sng rfl <| sng rfl <| sng rfl <| sv (vpkt rfl) <| sv (vmB rfl) <| sng rfl <| sng rfl <| sng rfl <| sng rfl <| sv (vpkt rfl) <| sv (vmB rfl) <| sng rfl <| sng rfl <| sng rfl <| sng rfl <| sv (vpkt rfl) <| sv (vmB rfl) <| sng rfl <| sng rfl <| sng rfl <| sng rfl <| sv (vpkt rfl) <| sv (vmB rfl) <| sng rfl <| sng rfl <| sng rfl <| sv (vpkt rfl) <| sv (vmB rfl) <| sng rfl <| sng rfl <| sng rfl <| sv (vpkt rfl) <| WL.nil <| WX.mid () trivial ⟨bT (by first | (unfold prevOk; by_cases ha : m.prev = 0 <;> by_cases hb : m.index = 0 <;> simp [ha, hb] <;> omega) | omega | simp_all | grind), trivial⟩ ⟨rfl, trivial⟩ (fun _ h => Sb.own (by repeat' (first | with_reducible exact Sb.all | exact Sb.nil | (apply Sb.cons; focus (first | ((repeat (first | with_reducible exact Tk.here | with_reducible apply Tk.there)); done) | ((repeat (first | exact Tk.here | apply Tk.there)); done))) | apply Sb.drop)) h)
      ·
        refine sv (vpkf rfl) <| sv (vmB rfl) <| svg rfl (vfldp fl28f1 rfl) <| svg rfl (vldc pl3 rfl) <| svsg rfl (vlt rfl rfl) (fun q3 => ?_) (fun q3 => ?_)
        ·
          exact sv (vpkf rfl) <| sv (vmB rfl) <| sng rfl <| sng rfl <| sng rfl <| sng rfl <| sv (vpkt rfl) <| sv (vmB rfl) <| sng rfl <| sng rfl <| sng rfl <| sng rfl <| sv (vpkt rfl) <| sv (vmB rfl) <| sng rfl <| sng rfl <| sng rfl <| sng rfl <| sv (vpkt rfl) <| sv (vmB rfl) <| sng rfl <| sng rfl <| sng rfl <| sv (vpkt rfl) <| sv (vmB rfl) <| sng rfl <| sng rfl <| sng rfl <| sv (vpkt rfl) <| WL.nil <| WX.mid () trivial ⟨bT (by first | (unfold prevOk; by_cases ha : m.prev = 0 <;> by_cases hb : m.index = 0 <;> simp [ha, hb] <;> omega) | omega | simp_all | grind), trivial⟩ ⟨rfl, trivial⟩ (fun _ h => Sb.own (by repeat' (first | with_reducible exact Sb.all | exact Sb.nil | (apply Sb.cons; focus (first | ((repeat (first | with_reducible exact Tk.here | with_reducible apply Tk.there)); done) | ((repeat (first | exact Tk.here | apply Tk.there)); done))) | apply Sb.drop)) h)
        ·
          refine sv (vpkf rfl) <| sv (vmB rfl) <| svg rfl (vfldp fl28f1 rfl) <| svg rfl (vldc pl3 rfl) <| svg rfl (vmI rfl) <| svsg rfl (vgt rfl rfl) (fun q4 => ?_) (fun q4 => ?_)
          ·
            exact sv (vpkf rfl) <| sv (vmB rfl) <| sng rfl <| sng rfl <| sng rfl <| sng rfl <| sv (vpkt rfl) <| sv (vmB rfl) <| sng rfl <| sng rfl <| sng rfl <| sng rfl <| sv (vpkt rfl) <| sv (vmB rfl) <| sng rfl <| sng rfl <| sng rfl <| sv (vpkt rfl) <| sv (vmB rfl) <| sng rfl <| sng rfl <| sng rfl <| sv (vpkt rfl) <| WL.nil <| WX.mid () trivial ⟨bT (by first | (unfold prevOk; by_cases ha : m.prev = 0 <;> by_cases hb : m.index = 0 <;> simp [ha, hb] <;> omega) | omega | simp_all | grind), trivial⟩ ⟨rfl, trivial⟩ (fun _ h => Sb.own (by repeat' (first | with_reducible exact Sb.all | exact Sb.nil | (apply Sb.cons; focus (first | ((repeat (first | with_reducible exact Tk.here | with_reducible apply Tk.there)); done) | ((repeat (first | exact Tk.here | apply Tk.there)); done))) | apply Sb.drop)) h)
          ·
            refine sv (vpkf rfl) <| sv (vmB rfl) <| svg rfl (vfldp fl28f1 rfl) <| svg rfl (vldc pl3 rfl) <| svg rfl (vmI rfl) <| svsg rfl (veq rfl rfl) (fun q5 => ?_) (fun q5 => ?_)
            ·
              exact sv (vpkf rfl) <| sv (vmB rfl) <| sng rfl <| sng rfl <| sng rfl <| sng rfl <| sv (vpkt rfl) <| sv (vmB rfl) <| sng rfl <| sng rfl <| sng rfl <| sv (vpkt rfl) <| sv (vmB rfl) <| sng rfl <| sng rfl <| sng rfl <| sv (vpkt rfl) <| WL.nil <| WX.mid () trivial ⟨bT (by first | (unfold prevOk; by_cases ha : m.prev = 0 <;> by_cases hb : m.index = 0 <;> simp [ha, hb] <;> omega) | omega | simp_all | grind), trivial⟩ ⟨rfl, trivial⟩ (fun _ h => Sb.own (by repeat' (first | with_reducible exact Sb.all | exact Sb.nil | (apply Sb.cons; focus (first | ((repeat (first | with_reducible exact Tk.here | with_reducible apply Tk.there)); done) | ((repeat (first | exact Tk.here | apply Tk.there)); done))) | apply Sb.drop)) h)
            ·
              refine sv (vpkf rfl) <| sv (vmB rfl) <| svg rfl (vfldp fl28f2 rfl) <| svg rfl (vldc pl3 rfl) <| svg rfl (vmI rfl) <| svsg rfl (vne rfl rfl) (fun q6 => ?_) (fun q6 => ?_)
              ·
                exact sv (vpkf rfl) <| sv (vmB rfl) <| sng rfl <| sng rfl <| sng rfl <| sv (vpkt rfl) <| sv (vmB rfl) <| sng rfl <| sng rfl <| sng rfl <| sv (vpkt rfl) <| WL.nil <| WX.mid () trivial ⟨bT (by first | (unfold prevOk; by_cases ha : m.prev = 0 <;> by_cases hb : m.index = 0 <;> simp [ha, hb] <;> omega) | omega | simp_all | grind), trivial⟩ ⟨rfl, trivial⟩ (fun _ h => Sb.own (by repeat' (first | with_reducible exact Sb.all | exact Sb.nil | (apply Sb.cons; focus (first | ((repeat (first | with_reducible exact Tk.here | with_reducible apply Tk.there)); done) | ((repeat (first | exact Tk.here | apply Tk.there)); done))) | apply Sb.drop)) h)
              ·
                refine sv (vpkf rfl) <| sv (vmB rfl) <| svg rfl (vfldp fl28f3 rfl) <| svg rfl (vldc pl3 rfl) <| svsg rfl (vlt rfl rfl) (fun q7 => ?_) (fun q7 => ?_)
                ·
                  exact sv (vpkf rfl) <| sv (vmB rfl) <| sng rfl <| sng rfl <| sng rfl <| sv (vpkt rfl) <| WL.nil <| WX.mid () trivial ⟨bT (by first | (unfold prevOk; by_cases ha : m.prev = 0 <;> by_cases hb : m.index = 0 <;> simp [ha, hb] <;> omega) | omega | simp_all | grind), trivial⟩ ⟨rfl, trivial⟩ (fun _ h => Sb.own (by repeat' (first | with_reducible exact Sb.all | exact Sb.nil | (apply Sb.cons; focus (first | ((repeat (first | with_reducible exact Tk.here | with_reducible apply Tk.there)); done) | ((repeat (first | exact Tk.here | apply Tk.there)); done))) | apply Sb.drop)) h)
                ·
                  exact sv (vpkf rfl) <| sv (vmB rfl) <| svg rfl (vfldp fl28f3 rfl) <| svg rfl (vldc pl3 rfl) <| svg rfl (vgt rfl rfl) <| sv (vpkf rfl) <| WL.nil <| WX.mid () trivial ⟨bI (by first | (unfold prevOk; by_cases ha : m.prev = 0 <;> by_cases hb : m.index = 0 <;> simp [ha, hb] <;> omega) | omega | simp_all | grind), trivial⟩ ⟨rfl, trivial⟩ (fun _ h => Sb.own (by repeat' (first | with_reducible exact Sb.all | exact Sb.nil | (apply Sb.cons; focus (first | ((repeat (first | with_reducible exact Tk.here | with_reducible apply Tk.there)); done) | ((repeat (first | exact Tk.here | apply Tk.there)); done))) | apply Sb.drop)) h)
  refine WC.ite rfl (fun h1 => ?_) (fun h1 => ?_)
  · -- then
    exact WC.seq <| WC.region <| sv (vaB rfl) <| WL.nil <| WX.thenN <| WC.ret <| WX.thenR <| WX.ret1 rfl (()) (trivial) (bF (fun hm => by have h2 := mail_kind hm; have h3 := hm.1; rcases h2 with h2 | h2 | h2 | h2 <;> (have h4 : m.kind = _ := h2; have h5 : 1 ≤ m.fr ∧ m.fr ≤ x.n ∧ m.fr ≠ x.id ∧ m.to_ = x.id ∧ 1 ≤ m.term ∧ m.term ≤ 1000000000 ∧ 0 ≤ m.index ∧ m.index ≤ 10000 := h3; omega))) (fun _ h => Sb.own (by repeat' (first | with_reducible exact Sb.all | exact Sb.nil | (apply Sb.cons; focus (first | ((repeat (first | with_reducible exact Tk.here | with_reducible apply Tk.there)); done) | ((repeat (first | exact Tk.here | apply Tk.there)); done))) | apply Sb.drop)) h)
  · -- else
    refine WC.skip <| WX.thenN <| WC.seq <| ?_
    refine WC.cutS [(55, .bool (decide (m.index < 0 ∨ (10000 : Int) < m.index)))] [(5, _)] ⟨rfl, trivial⟩ ?_ fun ρh => ?_
    · -- ref.go:39
      refine WC.region <| sv (vfldp fl28f4 rfl) <| sv (vldc pl3 rfl) <| svs (vlt rfl rfl) (fun q8 => ?_) (fun q8 => ?_)
      ·
        exact sv (vmB rfl) <| sng rfl <| sng rfl <| sng rfl <| sv (vpkt rfl) <| WL.nil <| WX.mid () trivial ⟨bT (by first | (unfold prevOk; by_cases ha : m.prev = 0 <;> by_cases hb : m.index = 0 <;> simp [ha, hb] <;> omega) | omega | simp_all | grind), trivial⟩ ⟨rfl, trivial⟩ (fun _ h => Sb.own (by repeat' (first | with_reducible exact Sb.all | exact Sb.nil | (apply Sb.cons; focus (first | ((repeat (first | with_reducible exact Tk.here | with_reducible apply Tk.there)); done) | ((repeat (first | exact Tk.here | apply Tk.there)); done))) | apply Sb.drop)) h)
      ·
        exact sv (vmB rfl) <| svg rfl (vfldp fl28f4 rfl) <| svg rfl (vldc pl3 rfl) <| svg rfl (vgt rfl rfl) <| sv (vpkf rfl) <| WL.nil <| WX.mid () trivial ⟨bI (by first | (unfold prevOk; by_cases ha : m.prev = 0 <;> by_cases hb : m.index = 0 <;> simp [ha, hb] <;> omega) | omega | simp_all | grind), trivial⟩ ⟨rfl, trivial⟩ (fun _ h => Sb.own (by repeat' (first | with_reducible exact Sb.all | exact Sb.nil | (apply Sb.cons; focus (first | ((repeat (first | with_reducible exact Tk.here | with_reducible apply Tk.there)); done) | ((repeat (first | exact Tk.here | apply Tk.there)); done))) | apply Sb.drop)) h)
    refine WC.ite rfl (fun h2 => ?_) (fun h2 => ?_)
    · -- then
      exact WC.seq <| WC.region <| sv (vaB rfl) <| WL.nil <| WX.thenN <| WC.ret <| WX.thenR <| WX.ret1 rfl (()) (trivial) (bF (may_no (by unfold headOk; omega))) (fun _ h => Sb.own (by repeat' (first | with_reducible exact Sb.all | exact Sb.nil | (apply Sb.cons; focus (first | ((repeat (first | with_reducible exact Tk.here | with_reducible apply Tk.there)); done) | ((repeat (first | exact Tk.here | apply Tk.there)); done))) | apply Sb.drop)) h)
    · -- else
      have hh : headOk x m := by unfold headOk; omega
      refine WC.skip <| WX.thenN <| WC.seq <| ?_
      refine WC.cutS [(63, .bool (decide (m.kind = 2 ∨ m.kind = 4)))] [(5, _)] ⟨rfl, trivial⟩ ?_ fun ρh => ?_
      · -- ref.go:42
        refine WC.region <| sv (vfldpz fl28f0 rfl) <| sv (vldc pl3 rfl) <| svs (veq rfl rfl) (fun q9 => ?_) (fun q9 => ?_)
        ·
          exact sv (vmB rfl) <| sng rfl <| sng rfl <| sng rfl <| sv (vpkt rfl) <| WL.nil <| WX.mid () trivial ⟨bT (by first | (unfold prevOk; by_cases ha : m.prev = 0 <;> by_cases hb : m.index = 0 <;> simp [ha, hb] <;> omega) | omega | simp_all | grind), trivial⟩ ⟨rfl, trivial⟩ (fun _ h => Sb.own (by repeat' (first | with_reducible exact Sb.all | exact Sb.nil | (apply Sb.cons; focus (first | ((repeat (first | with_reducible exact Tk.here | with_reducible apply Tk.there)); done) | ((repeat (first | exact Tk.here | apply Tk.there)); done))) | apply Sb.drop)) h)
        ·
          exact sv (vmB rfl) <| svg rfl (vfldpz fl28f0 rfl) <| svg rfl (vldc pl3 rfl) <| svg rfl (veq rfl rfl) <| sv (vpkf rfl) <| WL.nil <| WX.mid () trivial ⟨bI (by first | (unfold prevOk; by_cases ha : m.prev = 0 <;> by_cases hb : m.index = 0 <;> simp [ha, hb] <;> omega) | omega | simp_all | grind), trivial⟩ ⟨rfl, trivial⟩ (fun _ h => Sb.own (by repeat' (first | with_reducible exact Sb.all | exact Sb.nil | (apply Sb.cons; focus (first | ((repeat (first | with_reducible exact Tk.here | with_reducible apply Tk.there)); done) | ((repeat (first | exact Tk.here | apply Tk.there)); done))) | apply Sb.drop)) h)
      refine WC.ite rfl (fun h3 => ?_) (fun h3 => ?_)
      · -- then
        exact WC.seq <| WC.region <| sv (vaB rfl) <| WL.nil <| WX.thenN <| WC.ret <| WX.thenR <| WX.ret1 rfl (()) (trivial) (bT (may_two hh h3)) (fun _ h => Sb.own (by repeat' (first | with_reducible exact Sb.all | exact Sb.nil | (apply Sb.cons; focus (first | ((repeat (first | with_reducible exact Tk.here | with_reducible apply Tk.there)); done) | ((repeat (first | exact Tk.here | apply Tk.there)); done))) | apply Sb.drop)) h)
      · -- else
        refine WC.skip <| WX.thenN <| WC.seq <| ?_
        refine WC.cutS [(82, .bool (decide (¬ prevOk m)))] [(5, _)] ⟨rfl, trivial⟩ ?_ fun ρh => ?_
        · -- ref.go:45
          refine WC.region <| sv (vfldp fl28f5 rfl) <| sv (vldc pl3 rfl) <| svs (vlt rfl rfl) (fun q10 => ?_) (fun q10 => ?_)
          ·
            exact sv (vmB rfl) <| sng rfl <| sng rfl <| sng rfl <| sng rfl <| sng rfl <| sv (vpkt rfl) <| sv (vmB rfl) <| sng rfl <| sng rfl <| sng rfl <| sng rfl <| sng rfl <| sng rfl <| sng rfl <| sv (vpkt rfl) <| WL.nil <| WX.mid () trivial ⟨bT (by first | (unfold prevOk; by_cases ha : m.prev = 0 <;> by_cases hb : m.index = 0 <;> simp [ha, hb] <;> omega) | omega | simp_all | grind), trivial⟩ ⟨rfl, trivial⟩ (fun _ h => Sb.own (by repeat' (first | with_reducible exact Sb.all | exact Sb.nil | (apply Sb.cons; focus (first | ((repeat (first | with_reducible exact Tk.here | with_reducible apply Tk.there)); done) | ((repeat (first | exact Tk.here | apply Tk.there)); done))) | apply Sb.drop)) h)
          ·
            refine sv (vmB rfl) <| svg rfl (vfldp fl28f5 rfl) <| svg rfl (vldc pl3 rfl) <| svg rfl (vfldp fl28f3 rfl) <| svg rfl (vldc pl3 rfl) <| svsg rfl (vgt rfl rfl) (fun q11 => ?_) (fun q11 => ?_)
            ·
              exact sv (vpkf rfl) <| sv (vmB rfl) <| sng rfl <| sng rfl <| sng rfl <| sng rfl <| sng rfl <| sng rfl <| sng rfl <| sv (vpkt rfl) <| WL.nil <| WX.mid () trivial ⟨bT (by first | (unfold prevOk; by_cases ha : m.prev = 0 <;> by_cases hb : m.index = 0 <;> simp [ha, hb] <;> omega) | omega | simp_all | grind), trivial⟩ ⟨rfl, trivial⟩ (fun _ h => Sb.own (by repeat' (first | with_reducible exact Sb.all | exact Sb.nil | (apply Sb.cons; focus (first | ((repeat (first | with_reducible exact Tk.here | with_reducible apply Tk.there)); done) | ((repeat (first | exact Tk.here | apply Tk.there)); done))) | apply Sb.drop)) h)
            ·
              exact sv (vpkf rfl) <| sv (vmB rfl) <| svg rfl (vfldp fl28f4 rfl) <| svg rfl (vldc pl3 rfl) <| svg rfl (veq rfl rfl) <| svg rfl (vfldp fl28f5 rfl) <| svg rfl (vldc pl3 rfl) <| svg rfl (veq rfl rfl) <| svg rfl (vneb Try.underlying4 rfl rfl) <| sv (vpkf rfl) <| WL.nil <| WX.mid () trivial ⟨bI (by first | (unfold prevOk; by_cases ha : m.prev = 0 <;> by_cases hb : m.index = 0 <;> simp [ha, hb] <;> omega) | omega | simp_all | grind), trivial⟩ ⟨rfl, trivial⟩ (fun _ h => Sb.own (by repeat' (first | with_reducible exact Sb.all | exact Sb.nil | (apply Sb.cons; focus (first | ((repeat (first | with_reducible exact Tk.here | with_reducible apply Tk.there)); done) | ((repeat (first | exact Tk.here | apply Tk.there)); done))) | apply Sb.drop)) h)
        refine WC.ite rfl (fun h4 => ?_) (fun h4 => ?_)
        · -- then
          exact WC.seq <| WC.region <| sv (vaB rfl) <| WL.nil <| WX.thenN <| WC.ret <| WX.thenR <| WX.ret1 rfl (()) (trivial) (bF (fun hm => h4 (by have h5 : m.kind = 1 ∨ m.kind = 2 ∨ m.kind = 3 ∨ m.kind = 4 := mail_kind hm; rcases h5 with h5 | h5 | h5 | h5; exact (may_ask hh h5).2 hm; exact absurd (.inl h5) h3; exact ((may_three hh h5).2 hm).1; exact absurd (.inr h5) h3))) (fun _ h => Sb.own (by repeat' (first | with_reducible exact Sb.all | exact Sb.nil | (apply Sb.cons; focus (first | ((repeat (first | with_reducible exact Tk.here | with_reducible apply Tk.there)); done) | ((repeat (first | exact Tk.here | apply Tk.there)); done))) | apply Sb.drop)) h)
        · -- else
          have hp : prevOk m := Decidable.not_not.1 h4
          refine WC.skip <| WX.thenN <| WC.seq <| WC.seq <| WC.region <| sv (vfldpz fl28f0 rfl) <| sv (vldc pl3 rfl) <| sv (veq rfl rfl) <| WL.nil <| WX.thenN <| ?_
          refine WC.ite rfl (fun h5 => ?_) (fun h5 => ?_)
          · -- then
            exact WC.seq <| WC.region <| sv (vaB rfl) <| WL.nil <| WX.thenN <| WC.ret <| WX.thenR <| WX.ret1 rfl (()) (trivial) (bT ((may_ask hh h5).1 hp)) (fun _ h => Sb.own (by repeat' (first | with_reducible exact Sb.all | exact Sb.nil | (apply Sb.cons; focus (first | ((repeat (first | with_reducible exact Tk.here | with_reducible apply Tk.there)); done) | ((repeat (first | exact Tk.here | apply Tk.there)); done))) | apply Sb.drop)) h)
          · -- else
            have hk3 : m.kind = 3 := by omega
            refine WC.skip <| WX.thenN <| ?_
            refine WC.cutS [(6, .bool (decide (prevOk m ∧ 0 ≤ m.commit ∧ m.commit ≤ 10000 ∧ (m.cs.xs.length : Int) ≤ 8 ∧ m.index + (m.cs.xs.length : Int) ≤ 10000 ∧ rises m.cs.xs m.prev m.term = true)))] [] trivial ?_ fun ρh => ?_
            · -- ref.go:51
              refine WC.region <| sv (vfldp fl28f6 rfl) <| sv (vldc pl3 rfl) <| svs (vge rfl rfl) (fun q12 => ?_) (fun q12 => ?_)
              ·
                refine sv (vmB rfl) <| svg rfl (vfldp fl28f6 rfl) <| svg rfl (vldc pl3 rfl) <| svsg rfl (vle rfl rfl) (fun q13 => ?_) (fun q13 => ?_)
                ·
                  refine sv (vpkt rfl) <| sv (vmB rfl) <| svg rfl (vfldp fl28f8 rfl) <| svg rfl (vldc pl22 rfl) <| svg rfl (vlen Try.underlying22 rfl) <| svsg rfl (vle rfl rfl) (fun q14 => ?_) (fun q14 => ?_)
                  ·
                    refine sv (vpkt rfl) <| sv (vmB rfl) <| svg rfl (vfldp fl28f4 rfl) <| svg rfl (vldc pl3 rfl) <| svg rfl (vfldp fl28f8 rfl) <| svg rfl (vldc pl22 rfl) <| svg rfl (vlen Try.underlying22 rfl) <| svg rfl (vadd rfl rfl (by omega)) <| svsg rfl (vle rfl rfl) (fun q15 => ?_) (fun q15 => ?_)
                    ·
                      refine sv (vpkt rfl) <| sv (vmB rfl) <| svg rfl (vfldp fl28f8 rfl) <| svg rfl (vldc pl22 rfl) <| svg rfl (vfldp fl28f5 rfl) <| svg rfl (vldc pl3 rfl) <| svg rfl (vfldp fl28f3 rfl) <| svg rfl (vldc pl3 rfl) <| gy rfl <| clx (by repeat' (first | with_reducible exact Sb.all | exact Sb.nil | (apply Sb.cons; focus (first | ((repeat (first | with_reducible exact Tk.here | with_reducible apply Tk.there)); done) | ((repeat (first | exact Tk.here | apply Tk.there)); done))) | apply Sb.drop)) (ref_cells hml) ct34 rfl fun r29 hr29 => ?_
                      exact sv (vpkt rfl) <| sv (vaB rfl) <| WL.nil <| WX.mid () trivial ⟨bB ⟨fun h => ⟨hp, by omega, by omega, by omega, by omega, h⟩, fun h => h.2.2.2.2.2⟩, trivial⟩ trivial (fun _ h => Sb.own (by repeat' (first | with_reducible exact Sb.all | exact Sb.nil | (apply Sb.cons; focus (first | ((repeat (first | with_reducible exact Tk.here | with_reducible apply Tk.there)); done) | ((repeat (first | exact Tk.here | apply Tk.there)); done))) | apply Sb.drop)) h)
                    ·
                      exact sv (vpkt rfl) <| sv (vmB rfl) <| sng rfl <| sng rfl <| sng rfl <| sng rfl <| sng rfl <| sng rfl <| sng rfl <| sv (vpkf rfl) <| sv (vaB rfl) <| WL.nil <| WX.mid () trivial ⟨bF (by first | (unfold prevOk; by_cases ha : m.prev = 0 <;> by_cases hb : m.index = 0 <;> simp [ha, hb] <;> omega) | omega | simp_all | grind), trivial⟩ trivial (fun _ h => Sb.own (by repeat' (first | with_reducible exact Sb.all | exact Sb.nil | (apply Sb.cons; focus (first | ((repeat (first | with_reducible exact Tk.here | with_reducible apply Tk.there)); done) | ((repeat (first | exact Tk.here | apply Tk.there)); done))) | apply Sb.drop)) h)
                  ·
                    exact sv (vpkt rfl) <| sv (vmB rfl) <| sng rfl <| sng rfl <| sng rfl <| sng rfl <| sng rfl <| sng rfl <| sng rfl <| sv (vpkf rfl) <| sv (vmB rfl) <| sng rfl <| sng rfl <| sng rfl <| sng rfl <| sng rfl <| sng rfl <| sng rfl <| sv (vpkf rfl) <| sv (vaB rfl) <| WL.nil <| WX.mid () trivial ⟨bF (by first | (unfold prevOk; by_cases ha : m.prev = 0 <;> by_cases hb : m.index = 0 <;> simp [ha, hb] <;> omega) | omega | simp_all | grind), trivial⟩ trivial (fun _ h => Sb.own (by repeat' (first | with_reducible exact Sb.all | exact Sb.nil | (apply Sb.cons; focus (first | ((repeat (first | with_reducible exact Tk.here | with_reducible apply Tk.there)); done) | ((repeat (first | exact Tk.here | apply Tk.there)); done))) | apply Sb.drop)) h)
                ·
                  exact sv (vpkt rfl) <| sv (vmB rfl) <| sng rfl <| sng rfl <| sng rfl <| sng rfl <| sv (vpkf rfl) <| sv (vmB rfl) <| sng rfl <| sng rfl <| sng rfl <| sng rfl <| sng rfl <| sng rfl <| sng rfl <| sv (vpkf rfl) <| sv (vmB rfl) <| sng rfl <| sng rfl <| sng rfl <| sng rfl <| sng rfl <| sng rfl <| sng rfl <| sv (vpkf rfl) <| sv (vaB rfl) <| WL.nil <| WX.mid () trivial ⟨bF (by first | (unfold prevOk; by_cases ha : m.prev = 0 <;> by_cases hb : m.index = 0 <;> simp [ha, hb] <;> omega) | omega | simp_all | grind), trivial⟩ trivial (fun _ h => Sb.own (by repeat' (first | with_reducible exact Sb.all | exact Sb.nil | (apply Sb.cons; focus (first | ((repeat (first | with_reducible exact Tk.here | with_reducible apply Tk.there)); done) | ((repeat (first | exact Tk.here | apply Tk.there)); done))) | apply Sb.drop)) h)
              ·
                exact sv (vmB rfl) <| sng rfl <| sng rfl <| sng rfl <| sv (vpkf rfl) <| sv (vmB rfl) <| sng rfl <| sng rfl <| sng rfl <| sng rfl <| sv (vpkf rfl) <| sv (vmB rfl) <| sng rfl <| sng rfl <| sng rfl <| sng rfl <| sng rfl <| sng rfl <| sng rfl <| sv (vpkf rfl) <| sv (vmB rfl) <| sng rfl <| sng rfl <| sng rfl <| sng rfl <| sng rfl <| sng rfl <| sng rfl <| sv (vpkf rfl) <| sv (vaB rfl) <| WL.nil <| WX.mid () trivial ⟨bF (by first | (unfold prevOk; by_cases ha : m.prev = 0 <;> by_cases hb : m.index = 0 <;> simp [ha, hb] <;> omega) | omega | simp_all | grind), trivial⟩ trivial (fun _ h => Sb.own (by repeat' (first | with_reducible exact Sb.all | exact Sb.nil | (apply Sb.cons; focus (first | ((repeat (first | with_reducible exact Tk.here | with_reducible apply Tk.there)); done) | ((repeat (first | exact Tk.here | apply Tk.there)); done))) | apply Sb.drop)) h)
            exact WC.ret <| WX.ret1 rfl (()) (trivial) (bI (may_three hh hk3)) (fun _ h => Sb.own (by repeat' (first | with_reducible exact Sb.all | exact Sb.nil | (apply Sb.cons; focus (first | ((repeat (first | with_reducible exact Tk.here | with_reducible apply Tk.there)); done) | ((repeat (first | exact Tk.here | apply Tk.there)); done))) | apply Sb.drop)) h)
theorem ref_fed {w0 : World} {A : List HProp} {p : Nat} {x : Rn} {m : Mh} (hx : RInv x) (hm : mailOk x.id x.n m.ml) (hk : m.kind = 3) (hcc : m.cs.xs.length ≤ m.cs.cap) [hR : Reads w0 A m.cs.base (cvs m.cs.xs)] :
    Fun Try.prog w0 50 [.pointer (some ⟨p, 0, none⟩), .agg (mv m).toArray] (rnode p x :: A) (MRr w0 p A (fedS x m.ml)) := by
  refine Fun.ex (fun w h => rnode_open h) ?_
  rintro ⟨base, c, V, N, M⟩ ⟨hc, hrel⟩
  dsimp only at hc hrel ⊢
  have hl := hx.log
  have hcm := hx.commit
  obtain ⟨⟨m1, m2, m3, m4, m5, m6, m7, m8⟩, hrest⟩ := hm
  obtain ⟨hp0, hp1, hp2, hcs⟩ : 0 ≤ m.prev ∧ m.prev ≤ m.term ∧ (m.prev = 0 ↔ m.index = 0) ∧ (0 ≤ m.commit ∧ m.commit ≤ 10000 ∧ m.cs.xs.length ≤ 8 ∧ m.index + (m.cs.xs.length : Int) ≤ 10000 ∧ rises m.cs.xs m.prev m.term = true) := by
    rcases hrest with h | h | ⟨_, a, b, c, d⟩
    · exact absurd h (by show ¬ m.kind = 2; omega)
    · exact absurd h (by show ¬ m.kind = 4; omega)
    · exact ⟨a, b, c, d hk⟩
  replace m7 : 0 ≤ m.index := m7
  replace m8 : m.index ≤ 10000 := m8
  have hz : m.index ≤ 0 → atT x.log m.index = 0 ∧ m.prev = 0 := fun h => ⟨atT_zero (.inl (by omega)), hp2.2 (by omega)⟩
  have hf1 : (fedR x m.fr).role ≠ 1 := by show ¬ (0 : Int) = 1; decide
  have hf2 : (fedR x m.fr).role ≠ 2 := by show ¬ (0 : Int) = 2; decide
  refine Fun.enter Try.func50 rfl Try.ntmps50 rfl ?_
  refine WC.seq <| WC.region <| bxc (v := .agg _) (cs := [.int _ _, .int _ _, .int _ _, .int _ _, .int _ _, .int _ _, .int _ _, .bool _, .slice _ _ _]) rfl rfl fun b1 => sv (vaS rfl) <| WL.nil <| WX.thenN <| WC.seq <| WC.seq <| WC.draws rfl (by kernel_rfl) <| qv (vfldp fl28f3 rfl) <| qv (vldc pl3 rfl) <| qv (vmP rfl) <| qv (vnil rfl) <| qv (vfldp fl54f2 rfl) <| qv (vfldpz fl24f0 rfl) <| qv (vldc pl3 rfl) <| qv (vlt rfl rfl) <| WQ.nil <| WX.thenN <| ?_
  refine WC.ite rfl (fun h1 => ?_) (fun h1 => ?_)
  · -- then
    rw [fed_old (m := m.ml) h1]
    refine WC.seq <| WC.plan (.bar [0, 1, 2, 3, 4] 5 (.done [6])) rfl (by kernel_rfl) <| WPl.barC <| dv (fun g => (vmP rfl)) <| dv (fun g => (vfldp fl28f1 rfl)) <| dv (fun g => (vldc pl3 rfl)) <| dv (fun g => (vmP rfl)) <| dcl (fun g => Fun.quiet (ref_last (x := x) (base := base) (c := c) (V := V) (N := N) (M := M))) ct42 rfl <| WD.eff rfl <| clx (by repeat' (first | with_reducible exact Sb.all | exact Sb.nil | (apply Sb.cons; focus (first | ((repeat (first | with_reducible exact Tk.here | with_reducible apply Tk.there)); done) | ((repeat (first | exact Tk.here | apply Tk.there)); done))) | apply Sb.drop)) (ref_reply (x := x) (base := base) (c := c) (V := V) (N := N) (M := M)) ct64 rfl fun r6 hr6 => ?_
    refine WL.nil <| WX.brT <| WPl.finC <| dv (fun g => (vaS rfl)) <| WD.nil <| WX.thenN <| WC.ret <| WX.thenR <| WX.ret1 rfl ((some ⟨r6, 0, none⟩, 1, [replyH x m.fr false x.log.length])) (⟨rfl, Nat.le_refl _⟩) rfl (fun w h => ?_)
    have h2 := one_mail0 rfl (rnode_mk hc hrel (Own.sp2 (by repeat' (first | exact Spl.nil | (apply Spl.cons; focus (first | ((repeat (first | with_reducible exact Tk.here | with_reducible apply Tk.there)); done) | ((repeat (first | exact Tk.here | apply Tk.there)); done))))) h)).pk1
    exact Sb.own (by repeat' (first | with_reducible exact Sb.all | exact Sb.nil | (apply Sb.cons; focus (first | ((repeat (first | with_reducible exact Tk.here | with_reducible apply Tk.there)); done) | ((repeat (first | exact Tk.here | apply Tk.there)); done))) | apply Sb.drop)) h2
  · -- else
    refine WC.skip <| WX.thenN <| WC.seq <| WC.seq <| WC.region <| sv (vmP rfl) <| sv (vnil rfl) <| sv (vfldp fl54f3 rfl) <| sv (vldc pl3 rfl) <| sv (veq rfl rfl) <| WL.nil <| WX.thenN <| ?_
    refine WC.ite rfl (fun h2 => ?_) (fun h2 => ?_)
    · -- then
      rw [fed_lead (m := m.ml) h1 h2]
      exact WC.seq <| WC.region <| sv (vaS rfl) <| WL.nil <| WX.thenN <| WC.ret <| WX.thenR <| WX.ret1 rfl ((none, 0, [])) (⟨rfl, Nat.le_refl _⟩) rfl (fun w h => no_mailsR (rnode_mk hc hrel (Sb.own (by repeat' (first | with_reducible exact Sb.all | exact Sb.nil | (apply Sb.cons; focus (first | ((repeat (first | with_reducible exact Tk.here | with_reducible apply Tk.there)); done) | ((repeat (first | exact Tk.here | apply Tk.there)); done))) | apply Sb.drop)) h)))
    · -- else
      refine WC.skip <| WX.thenN <| WC.seq <| WC.region <| sv (vmP rfl) <| sv (vnil rfl) <| sv (vfldp fl54f3 rfl) <| stp (v := .int _ _) pl3 sz3 rfl rfl rfl <| WL.nil <| WX.thenN <| WC.seq <| WC.region <| sv (vmP rfl) <| sv (vfldp fl28f1 rfl) <| sv (vldc pl3 rfl) <| sv (vnil rfl) <| sv (vfldp fl54f4 rfl) <| stp (v := .int _ _) pl3 sz3 rfl rfl rfl <| WL.nil <| WX.thenN <| WC.seq <| WC.region <| sv (vmP rfl) <| sv (vnil rfl) <| sv (vfldp fl54f6 rfl) <| stp (v := .int _ _) pl3 sz3 rfl rfl rfl <| WL.nil <| WX.thenN <| WC.seq <| ?_
      refine WC.cut0 [(56, .bool (decide ((x.log.length : Int) < m.index ∨ atT x.log m.index ≠ m.prev)))] [(0, .pointer _), (3, _)] (cel b1 (mv m) 28 :: cel p (rcells (fedR x m.fr) base c V N M) 54 :: row base c 2 39 (cvs x.log) :: A) ⟨rfl, rfl, trivial⟩ ?_ fun ρh => ?_
      · -- ref.go:220
        refine WC.draws rfl (by kernel_rfl) <| qv (vfldp fl28f4 rfl) <| qv (vldc pl3 rfl) <| qv (vmP rfl) <| qcl (Fun.quiet (ref_last (x := fedR x m.fr) (base := base) (c := c) (V := V) (N := N) (M := M))) ct42 rfl <| qvs (vgt rfl rfl) (fun q1 => ?_) (fun q1 => ?_)
        ·
          exact qv (vmB rfl) <| qng rfl <| qng rfl <| qng rfl <| qng rfl <| qng rfl <| qng rfl <| qng rfl <| qng rfl <| qng rfl <| qng rfl <| qng rfl <| qng rfl <| qv (vpkt rfl) <| WQ.nil <| WX.mid () trivial ⟨bT (.inl (by assumption)), trivial⟩ ⟨rfl, rfl, trivial⟩ (fun _ h => Sb.own (by repeat' (first | with_reducible exact Sb.all | exact Sb.nil | (apply Sb.cons; focus (first | ((repeat (first | with_reducible exact Tk.here | with_reducible apply Tk.there)); done) | ((repeat (first | exact Tk.here | apply Tk.there)); done))) | apply Sb.drop)) h)
        ·
          refine qv (vmB rfl) <| qvg rfl (vfldp fl28f4 rfl) <| qvg rfl (vldc pl3 rfl) <| qvsg rfl (vgt rfl rfl) (fun q2 => ?_) (fun q2 => ?_)
          ·
            exact qvg rfl (vmB rfl) <| qvg rfl (vmP rfl) <| qvg rfl (vfldp fl28f4 rfl) <| qvg rfl (vldc pl3 rfl) <| qclg rfl (Fun.quiet (ref_term (x := fedR x m.fr) (base := base) (c := c) (V := V) (N := N) (M := M) hl)) ct43 rfl <| qvg rfl (vfldp fl28f5 rfl) <| qvg rfl (vldc pl3 rfl) <| qvg rfl (vne rfl rfl) <| qvg rfl (vpkt rfl) <| qv (vpkf rfl) <| WQ.nil <| WX.mid () trivial ⟨bI ⟨fun h => .inr h, fun h => h.elim (fun h' => absurd h' (by assumption)) id⟩, trivial⟩ ⟨rfl, rfl, trivial⟩ (fun _ h => Sb.own (by repeat' (first | with_reducible exact Sb.all | exact Sb.nil | (apply Sb.cons; focus (first | ((repeat (first | with_reducible exact Tk.here | with_reducible apply Tk.there)); done) | ((repeat (first | exact Tk.here | apply Tk.there)); done))) | apply Sb.drop)) h)
          ·
            exact qvg rfl (vmB rfl) <| qng rfl <| qng rfl <| qng rfl <| qng rfl <| qng rfl <| qng rfl <| qng rfl <| qvg rfl (vpkf rfl) <| qv (vpkf rfl) <| WQ.nil <| WX.mid () trivial ⟨bF (by have := hz (by omega); rw [this.1, this.2]; simp; omega), trivial⟩ ⟨rfl, rfl, trivial⟩ (fun _ h => Sb.own (by repeat' (first | with_reducible exact Sb.all | exact Sb.nil | (apply Sb.cons; focus (first | ((repeat (first | with_reducible exact Tk.here | with_reducible apply Tk.there)); done) | ((repeat (first | exact Tk.here | apply Tk.there)); done))) | apply Sb.drop)) h)
      refine WC.ite rfl (fun h3 => ?_) (fun h3 => ?_)
      · -- then
        rw [fed_gap (m := m.ml) h1 h2 h3]
        refine WC.seq <| WC.plan (.bar [0, 1, 2, 3, 4, 5, 6, 7, 8] 9 (.done [10])) rfl (by kernel_rfl) <| WPl.barC <| dv (fun g => (vmP rfl)) <| dv (fun g => (vfldp fl28f1 rfl)) <| dv (fun g => (vldc pl3 rfl)) <| dv (fun g => (vmP rfl)) <| dcl (fun g => Fun.quiet (ref_last (x := fedR x m.fr) (base := base) (c := c) (V := V) (N := N) (M := M))) ct42 rfl <| dv (fun g => (vfldp fl28f4 rfl)) <| dv (fun g => (vldc pl3 rfl)) <| dv (fun g => (vsub rfl rfl (by omega))) <| dv (fun g => (vmin rfl rfl)) <| WD.eff rfl <| clx (by repeat' (first | with_reducible exact Sb.all | exact Sb.nil | (apply Sb.cons; focus (first | ((repeat (first | with_reducible exact Tk.here | with_reducible apply Tk.there)); done) | ((repeat (first | exact Tk.here | apply Tk.there)); done))) | apply Sb.drop)) (ref_reply (x := fedR x m.fr) (base := base) (c := c) (V := V) (N := N) (M := M)) ct64 rfl fun r23 hr23 => ?_
        refine WL.nil <| WX.brT <| WPl.finC <| dv (fun g => (vaS rfl)) <| WD.nil <| WX.thenN <| WC.ret <| WX.thenR <| WX.ret1 rfl ((some ⟨r23, 0, none⟩, 1, [replyH x m.fr false (min (x.log.length : Int) (m.index - 1))])) (⟨rfl, Nat.le_refl _⟩) rfl (fun w h => ?_)
        have h2 := one_mail0 (h := replyH x m.fr false (min (x.log.length : Int) (m.index - 1))) rfl (rnode_mk (x := fedR x m.fr) hc (RelR.follow hf1 hf2) (Own.sp2 (by repeat' (first | exact Spl.nil | (apply Spl.cons; focus (first | ((repeat (first | with_reducible exact Tk.here | with_reducible apply Tk.there)); done) | ((repeat (first | exact Tk.here | apply Tk.there)); done))))) h)).pk1
        exact Sb.own (by repeat' (first | with_reducible exact Sb.all | exact Sb.nil | (apply Sb.cons; focus (first | ((repeat (first | with_reducible exact Tk.here | with_reducible apply Tk.there)); done) | ((repeat (first | exact Tk.here | apply Tk.there)); done))) | apply Sb.drop)) h2
      · -- else
        have h3' : m.index ≤ x.log.length ∧ atT x.log m.index = m.prev := ⟨by omega, Decidable.not_not.1 fun h => h3 (.inr h)⟩
        have hfl : (fedR x m.fr).log.length = x.log.length := rfl
        refine WC.skip <| WX.thenN <| WC.seq <| WC.region <| sv (vaI rfl) <| WL.nil <| WX.thenN <| WC.seq <| WC.block <| ?_
        refine WC.loopS (ι := Nat) (fun i => [(5, .int .i64 i)]) [(0, .pointer _), (3, _)] (fun i => i ≤ m.cs.xs.length ∧ m.index + (i : Int) ≤ (x.log.length : Int) ∧ mergeS x.log x.commit m.index m.cs.xs = mergeS x.log x.commit (m.index + (i : Int)) (m.cs.xs.drop i)) (fun i => m.cs.xs.length - i) (0) (⟨by omega, by omega, by simp⟩) ⟨rfl, trivial⟩ ⟨rfl, rfl, trivial⟩ ?_
        intro i ⟨hi1, hi2, hi3⟩ ρh
        obtain ⟨d, hdd⟩ : ∃ d, d = m.cs.xs.getD i ⟨0, ByteArray.empty⟩ := ⟨_, rfl⟩
        have hd : i < m.cs.xs.length → m.cs.xs[i]? = some d := fun h => by rw [hdd, List.getD_eq_getElem?_getD, List.getElem?_eq_getElem h]; rfl
        have hlc := cvs_length m.cs.xs
        have epl : m.index + 1 + (i : Int) = (m.index + (i : Int)) + 1 := by omega
        refine WC.known (p := 0 < (cvs m.cs.xs).length → m.cs.base.isSome = true) (fun w h hpos => rsome hpos reads h) fun hb0 => ?_
        refine WC.seq <| ?_
        refine WC.cutS [(97, .bool (decide (i < m.cs.xs.length ∧ m.index + 1 + (i : Int) ≤ x.log.length ∧ atT x.log (m.index + 1 + (i : Int)) = d.term)))] [(0, .pointer _), (3, _), (5, .int _ _)] ⟨rfl, rfl, rfl, trivial⟩ ?_ fun ρh => ?_
        · -- ref.go:224
          refine WC.draws rfl (by kernel_rfl) <| qv (vmI rfl) <| qv (vfldp fl28f8 rfl) <| qv (vldc pl22 rfl) <| qv (vlen Try.underlying22 rfl) <| qvs (vlt rfl rfl) (fun q3 => ?_) (fun q3 => ?_)
          ·
            refine qv (vmB rfl) <| qvg rfl (vfldp fl28f4 rfl) <| qvg rfl (vldc pl3 rfl) <| qvg rfl (vadd rfl rfl (by omega)) <| qvg rfl (vmI rfl) <| qvg rfl (vadd rfl rfl (by omega)) <| qvg rfl (vmP rfl) <| qclg rfl (Fun.quiet (ref_last (x := fedR x m.fr) (base := base) (c := c) (V := V) (N := N) (M := M))) ct42 rfl <| qvsg rfl (vle rfl rfl) (fun q4 => ?_) (fun q4 => ?_)
            ·
              exact qv (vpkt rfl) <| qv (vmB rfl) <| qvg rfl (vmP rfl) <| qvg rfl (vfldp fl28f4 rfl) <| qvg rfl (vldc pl3 rfl) <| qvg rfl (vadd rfl rfl (by omega)) <| qvg rfl (vmI rfl) <| qvg rfl (vadd rfl rfl (by omega)) <| qclg rfl (Fun.quiet (ref_term (x := fedR x m.fr) (base := base) (c := c) (V := V) (N := N) (M := M) hl)) ct43 rfl <| qvg rfl (vfldp fl28f8 rfl) <| qvg rfl (vldc pl22 rfl) <| qvg rfl (vmI rfl) <| qvg rfl (vix Try.underlying22 sz39 rfl rfl (by omega) (by omega) reads (by show 0 < (cvs m.cs.xs).length; omega)) <| qvg rfl (vfldr (hb0 (by omega)) fl39f0 rfl) <| qvg rfl (vldo pl3 rfl reads (by show (cvs m.cs.xs)[((i : Int)).toNat * 2 + 0]? = some (.int .i64 d.term); rw [Int.toNat_natCast, cvs_at (hd (by omega)) (by omega)]; rfl)) <| qvg rfl (veq rfl rfl) <| qv (vpkt rfl) <| WQ.nil <| WX.mid () trivial ⟨bI ⟨fun h => ⟨by omega, by omega, h⟩, fun h => h.2.2⟩, trivial⟩ ⟨rfl, rfl, rfl, trivial⟩ (fun _ h => Sb.own (by repeat' (first | with_reducible exact Sb.all | exact Sb.nil | (apply Sb.cons; focus (first | ((repeat (first | with_reducible exact Tk.here | with_reducible apply Tk.there)); done) | ((repeat (first | exact Tk.here | apply Tk.there)); done))) | apply Sb.drop)) h)
            ·
              exact qv (vpkt rfl) <| qv (vmB rfl) <| qng rfl <| qng rfl <| qng rfl <| qng rfl <| qng rfl <| qng rfl <| qng rfl <| qng rfl <| qng rfl <| qng rfl <| qng rfl <| qng rfl <| qng rfl <| qng rfl <| qv (vpkf rfl) <| WQ.nil <| WX.mid () trivial ⟨bF (by first | omega | simp_all | grind), trivial⟩ ⟨rfl, rfl, rfl, trivial⟩ (fun _ h => Sb.own (by repeat' (first | with_reducible exact Sb.all | exact Sb.nil | (apply Sb.cons; focus (first | ((repeat (first | with_reducible exact Tk.here | with_reducible apply Tk.there)); done) | ((repeat (first | exact Tk.here | apply Tk.there)); done))) | apply Sb.drop)) h)
          ·
            exact qv (vmB rfl) <| qng rfl <| qng rfl <| qng rfl <| qng rfl <| qng rfl <| qng rfl <| qng rfl <| qng rfl <| qv (vpkf rfl) <| qv (vmB rfl) <| qng rfl <| qng rfl <| qng rfl <| qng rfl <| qng rfl <| qng rfl <| qng rfl <| qng rfl <| qng rfl <| qng rfl <| qng rfl <| qng rfl <| qng rfl <| qng rfl <| qv (vpkf rfl) <| WQ.nil <| WX.mid () trivial ⟨bF (by first | omega | simp_all | grind), trivial⟩ ⟨rfl, rfl, rfl, trivial⟩ (fun _ h => Sb.own (by repeat' (first | with_reducible exact Sb.all | exact Sb.nil | (apply Sb.cons; focus (first | ((repeat (first | with_reducible exact Tk.here | with_reducible apply Tk.there)); done) | ((repeat (first | exact Tk.here | apply Tk.there)); done))) | apply Sb.drop)) h)
        refine WC.ite rfl (fun h4 => ?_) (fun h4 => ?_)
        · -- then
          exact WC.skip <| WX.thenN <| WC.block <| WC.region <| sv (vmI rfl) <| sv (vadd rfl rfl (by omega)) <| sv (vaI rfl) <| WL.nil <| WX.blockN <| WX.again (i + 1) (⟨by omega, by omega, by rw [hi3, mergeS_step (hd h4.1) (by rw [← epl]; exact h4.2.2)]; congr 1; omega⟩) (by omega) ⟨rfl, trivial⟩ ⟨rfl, rfl, trivial⟩ (fun _ h => Sb.own (by repeat' (first | with_reducible exact Sb.all | exact Sb.nil | (apply Sb.cons; focus (first | ((repeat (first | with_reducible exact Tk.here | with_reducible apply Tk.there)); done) | ((repeat (first | exact Tk.here | apply Tk.there)); done))) | apply Sb.drop)) h)
        · -- else
          refine WC.exit <| WX.thenE <| WX.thenE <| WX.blockH <| WX.thenN <| ?_
          refine WC.cutv (ι := FI) (fun i => []) [(0, .pointer _), (3, _)] (fun i => cel b1 (mv m) 28 :: cel p (rcells { fedR x m.fr with log := i.log } i.base i.c V N M) 54 :: row i.base i.c 2 39 (cvs i.log) :: A) (fun i => mergeS x.log x.commit m.index m.cs.xs = some i.log ∧ i.log.length ≤ i.c) ⟨rfl, rfl, trivial⟩ ?_ ?_
          · -- up to the join
            refine WC.seq <| WC.region <| sv (vmI rfl) <| sv (vfldp fl28f8 rfl) <| sv (vldc pl22 rfl) <| sv (vlen Try.underlying22 rfl) <| sv (vlt rfl rfl) <| WL.nil <| WX.thenN <| ?_
            refine WC.ite rfl (fun h5 => ?_) (fun h5 => ?_)
            · -- then
              have hil : i < m.cs.xs.length := by omega
              have hdt := (rises_mem hcs.2.2.2.2 d (List.mem_of_getElem? (hd hil))).1
              have hne : atT x.log (m.index + (i : Int) + 1) ≠ d.term := fun he => by
                by_cases hle : m.index + 1 + (i : Int) ≤ x.log.length
                · exact h4 ⟨hil, hle, by rw [epl]; exact he⟩
                · rw [atT_zero (.inr (by omega))] at he; omega
              refine WC.seq <| WC.region <| sv (vfldp fl28f4 rfl) <| sv (vldc pl3 rfl) <| sv (vmI rfl) <| sv (vadd rfl rfl (by omega)) <| sv (vaI rfl) <| WL.nil <| WX.thenN <| WC.seq <| WC.seq <| WC.region <| sv (vmI rfl) <| sv (vmP rfl) <| sv (vnil rfl) <| sv (vfldp fl54f5 rfl) <| sv (vldc pl3 rfl) <| sv (vlt rfl rfl) <| WL.nil <| WX.thenN <| ?_
              refine WC.ite rfl (fun h6 => ?_) (fun h6 => ?_)
              · -- then
                rw [fed_none (m := m.ml) h1 h2 h3 (hi3.trans (mergeS_none (hd hil) hne (by have h7 : m.index + (i : Int) < x.commit := h6; omega)))]
                exact WC.seq <| WC.region <| sv (vaS rfl) <| WL.nil <| WX.thenN <| WC.ret <| WX.thenR <| WX.thenR <| WX.ret1 rfl ((none, 0, [])) (⟨rfl, Nat.le_refl _⟩) rfl (fun w h => no_mailsR (rnode_mk (x := fedR x m.fr) hc (RelR.follow hf1 hf2) (Sb.own (by repeat' (first | with_reducible exact Sb.all | exact Sb.nil | (apply Sb.cons; focus (first | ((repeat (first | with_reducible exact Tk.here | with_reducible apply Tk.there)); done) | ((repeat (first | exact Tk.here | apply Tk.there)); done))) | apply Sb.drop)) h)))
              · -- else
                have h7 : ¬ m.index + (i : Int) < x.commit := h6
                obtain ⟨k0, hk0⟩ : ∃ k0 : Nat, m.index = (k0 : Int) := ⟨m.index.toNat, by omega⟩
                have hkk : m.index + (i : Int) = ((k0 + i : Nat) : Int) := by omega
                have hkl : k0 + i ≤ x.log.length := by omega
                have hnew := hi3.trans (mergeS_new (hd hil) hne (by omega))
                rw [hkk, Int.toNat_natCast] at hnew
                have hlc2 := cvs_length x.log
                have hlt : (x.log.take (k0 + i)).length = k0 + i := by rw [List.length_take]; omega
                have hrd : ∀ {B : List HProp} [Reads w0 B m.cs.base (cvs m.cs.xs)], RdC w0 B (slB m.cs.base ((i : Int)).toNat m.cs.cap 2) (cvs (m.cs.xs.drop i)) := fun {B} _ => by
                  have := (reads (w0 := w0) (A := B) (base := m.cs.base) (vs := cvs m.cs.xs)).slice i m.cs.cap 2 ((m.cs.xs.drop i).length * 2) (fun h => by rw [List.length_drop]; omega)
                  rw [cvs_drop, cvs_take, List.take_length] at this
                  simpa using this
                have hrt : ∀ {B : List HProp} [Reads w0 B base (cvs x.log)], RdC w0 B base (cvs (x.log.take (k0 + i))) := fun {B} _ => by
                  have := (reads (w0 := w0) (A := B) (base := base) (vs := cvs x.log)).take ((k0 + i) * 2)
                  rwa [cvs_take] at this
                refine WC.skip <| WX.thenN <| WC.seq <| WC.region <| sv (vmP rfl) <| sv (vnil rfl) <| sv (vfldp fl54f2 rfl) <| sv (vfldp fl24f2 rfl) <| sv (vldc pl22 rfl) <| sv (vmI rfl) <| sv (vw (v' := .slice base (x.log.take (k0 + i)).length c) (vslH Try.underlying22 sz39 rfl rfl (by omega) (by omega)) (by rw [hlt, hkk, Int.toNat_natCast])) <| clx (by repeat' (first | with_reducible exact Sb.all | exact Sb.nil | (apply Sb.cons; focus (first | ((repeat (first | with_reducible exact Tk.here | with_reducible apply Tk.there)); done) | ((repeat (first | exact Tk.here | apply Tk.there)); done))) | apply Sb.drop)) (ref_copy (hR := ⟨hrt⟩) (by omega)) ct9 rfl fun r43 hr43 => ?_
                refine sv (vaS rfl) <| WL.nil <| WX.thenN <| WC.seq <| WC.region <| sv (vmS rfl) <| sv (vfldp fl28f8 rfl) <| sv (vldc pl22 rfl) <| sv (vmI rfl) <| sv (vslL Try.underlying22 sz39 rfl rfl (by omega) (by omega)) <| pm (fun _ h => Sb.own (by repeat' (first | with_reducible exact Sb.all | exact Sb.nil | (apply Sb.cons; focus (first | ((repeat (first | with_reducible exact Tk.here | with_reducible apply Tk.there)); done) | ((repeat (first | exact Tk.here | apply Tk.there)); done))) | apply Sb.drop)) h) <| ap (vs := cvs (x.log.take (k0 + i))) (news := cvs (m.cs.xs.drop i)) rfl Try.underlying22 zt39 rfl rfl rfl (cvs_length _) (by rw [cvs_length, List.length_drop, Int.toNat_natCast]) (cvs_one _) (hrd) (by simp only [maxLen]; omega) (by omega) fun base46 c46 hc46 => ?_
                refine sv (vaS rfl) <| WL.nil <| WX.thenN <| WC.region <| sv (vmP rfl) <| sv (vmS rfl) <| sv (vnil rfl) <| sv (vfldp fl54f2 rfl) <| sv (vfldp fl24f2 rfl) <| stp (v := .slice _ _ _) pl22 sz22 rfl rfl rfl <| WL.nil <| WX.mid (⟨x.log.take (k0 + i) ++ m.cs.xs.drop i, base46, c46⟩) (⟨hnew, by show (x.log.take (k0 + i) ++ m.cs.xs.drop i).length ≤ c46; rw [List.length_append, List.length_drop]; rw [Int.toNat_natCast] at hc46; exact hc46⟩) trivial ⟨rfl, rfl, trivial⟩ (fun w h => ?_)
                have e1 : (x.log.take (k0 + i) ++ m.cs.xs.drop i).length = (x.log.take (k0 + i)).length + (m.cs.xs.length - ((i : Int)).toNat) := by rw [List.length_append, List.length_drop, Int.toNat_natCast]
                have e2 : cvs (x.log.take (k0 + i) ++ m.cs.xs.drop i) = cvs (x.log.take (k0 + i)) ++ cvs (m.cs.xs.drop i) := cvs_append _ _
                dsimp only
                unfold rcells
                dsimp only
                rw [e1, e2]
                exact Sb.own (by repeat' (first | with_reducible exact Sb.all | exact Sb.nil | (apply Sb.cons; focus (first | ((repeat (first | with_reducible exact Tk.here | with_reducible apply Tk.there)); done) | ((repeat (first | exact Tk.here | apply Tk.there)); done))) | apply Sb.drop)) h
            · -- else
              exact WC.skip <| WX.mid (⟨x.log, base, c⟩) (⟨by rw [hi3, List.drop_eq_nil_of_le (by omega)]; rfl, hc⟩) trivial ⟨rfl, rfl, trivial⟩ (fun _ h => Sb.own (by repeat' (first | with_reducible exact Sb.all | exact Sb.nil | (apply Sb.cons; focus (first | ((repeat (first | with_reducible exact Tk.here | with_reducible apply Tk.there)); done) | ((repeat (first | exact Tk.here | apply Tk.there)); done))) | apply Sb.drop)) h)
          · -- behind the join
            rintro ⟨log', base', c'⟩ ⟨g1, g2⟩ ρh
            dsimp only at g1 g2 ⊢
            rw [fed_some (m := m.ml) h1 h2 h3 g1]
            refine WC.seq <| WC.plan (.bar [0, 1, 2, 3, 4, 5, 6, 7, 8, 9, 10, 11, 12, 13, 14, 15, 16] 17 (.done [])) rfl (by kernel_rfl) <| WPl.barC <| dv (fun g => (vmP rfl)) <| dv (fun g => (vmP rfl)) <| dv (fun g => (vnil rfl)) <| dv (fun g => (vfldp fl54f5 rfl)) <| dv (fun g => (vldc pl3 rfl)) <| dv (fun g => (vfldp fl28f6 rfl)) <| dv (fun g => (vldc pl3 rfl)) <| dv (fun g => (vfldp fl28f4 rfl)) <| dv (fun g => (vldc pl3 rfl)) <| dv (fun g => (vfldp fl28f8 rfl)) <| dv (fun g => (vldc pl22 rfl)) <| dv (fun g => (vlen Try.underlying22 rfl)) <| dv (fun g => (vadd rfl rfl (by omega))) <| dv (fun g => (vmin rfl rfl)) <| dv (fun g => (vmax rfl rfl)) <| dv (fun g => (vnil rfl)) <| dv (fun g => (vfldp fl54f5 rfl)) <| WD.eff rfl <| stp (v := .int _ _) pl3 sz3 rfl rfl rfl <| WL.nil <| WX.brT <| WPl.finC <| WD.nil <| WX.thenN <| WC.seq <| WC.region <| sv (vmP rfl) <| sv (vfldp fl28f1 rfl) <| sv (vldc pl3 rfl) <| sv (vfldp fl28f4 rfl) <| sv (vldc pl3 rfl) <| sv (vfldp fl28f8 rfl) <| sv (vldc pl22 rfl) <| sv (vlen Try.underlying22 rfl) <| sv (vadd rfl rfl (by omega)) <| clx (by repeat' (first | with_reducible exact Sb.all | exact Sb.nil | (apply Sb.cons; focus (first | ((repeat (first | with_reducible exact Tk.here | with_reducible apply Tk.there)); done) | ((repeat (first | exact Tk.here | apply Tk.there)); done))) | apply Sb.drop)) (ref_reply (x := { fedR x m.fr with log := log', commit := max x.commit (min m.commit (m.index + (m.cs.xs.length : Int))) }) (base := base') (c := c') (V := V) (N := N) (M := M)) ct64 rfl fun r60 hr60 => ?_
            refine sv (vaS rfl) <| WL.nil <| WX.thenN <| WC.ret <| WX.ret1 rfl ((some ⟨r60, 0, none⟩, 1, [replyH x m.fr true (m.index + (m.cs.xs.length : Int))])) (⟨rfl, Nat.le_refl _⟩) rfl (fun w h => ?_)
            have h2 := one_mail0 (h := replyH x m.fr true (m.index + (m.cs.xs.length : Int))) rfl (rnode_mk (x := { fedR x m.fr with log := log', commit := max x.commit (min m.commit (m.index + (m.cs.xs.length : Int))) }) g2 (RelR.follow hf1 hf2) (Own.sp2 (by repeat' (first | exact Spl.nil | (apply Spl.cons; focus (first | ((repeat (first | with_reducible exact Tk.here | with_reducible apply Tk.there)); done) | ((repeat (first | exact Tk.here | apply Tk.there)); done))))) h)).pk1
            exact Sb.own (by repeat' (first | with_reducible exact Sb.all | exact Sb.nil | (apply Sb.cons; focus (first | ((repeat (first | with_reducible exact Tk.here | with_reducible apply Tk.there)); done) | ((repeat (first | exact Tk.here | apply Tk.there)); done))) | apply Sb.drop)) h2
end Go.Proofs.Ytekoilhjlofncaa
