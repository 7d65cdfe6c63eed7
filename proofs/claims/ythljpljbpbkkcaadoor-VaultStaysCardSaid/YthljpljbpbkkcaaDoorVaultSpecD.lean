/-
  Layer 16: a record is written, and done.
-/
import Derived.Test.YthljpljbpbkkcaaDoorVaultSpecC
import Derived.Test.YthljpljbpbkkcaaDoorJournalSpecB
import Derived.Test.YthljpljbpbkkcaaDoorPackSpecA
set_option linter.unusedVariables false
set_option linter.unusedSimpArgs false
set_option maxRecDepth 4000
namespace Go.Proofs.YthljpljbpbkkcaaDoor
open Go.Sl Go.RowKit Go.Pack Go.Vault Go.Journal

abbrev vnm : ByteArray := ByteArray.mk #[118, 97, 117, 108, 116]
/-- a vault's journal: its disk, how many records, whether it is sick -/
structure JV where
  st : DSt
  n : Int
  sick : Bool
/-- a call that may be done, is done: what is there, and the answer -/
def actS (w : Int × Bool) (rec : List UInt8) (d' d : VD) (s : JV) : (VD × JV) × Int :=
  if w.1 ≠ 0 then ((d, s), w.1) else if s.sick = true then ((d, s), 20) else if w.2 = false then ((d, s), 0) else
    ((if (addP vnm rec s.st).2 = 0 then d' else d, ⟨(addP vnm rec s.st).1, if (addP vnm rec s.st).2 = 0 then s.n + 1 else s.n, decide ((addP vnm rec s.st).2 = 20)⟩), (addP vnm rec s.st).2)
def putS (k : PK) (b : List UInt8) (d : VD) (s : JV) : (VD × JV) × Int := actS (whyPut d k) (recPut k b) (putD d k b) d s
def dropS (f : ByteArray) (n : Int) (d : VD) (s : JV) : (VD × JV) × Int := actS (whyDrop d f n) (recDrop f n) (dropD d f n) d s
abbrev vall (v j dk : Nat) (d : VD) (s : JV) (A : List HProp) : List HProp := pv v j s.sick d :: cel j (jcells dk vnm s.n s.sick) 80 :: pdisk dk s.st :: A
abbrev AddF (w0 : World) (v j dk : Nat) (w : Int × Bool) (rec : List UInt8) (d' d : VD) (s : JV) (args : List Value) (A : List HProp) : Prop :=
  Fun Tryd.prog w0 22 args (vall v j dk d s A) (Ret w0 (fun _ : Unit => True) (fun _ => .int .i64 (actS w rec d' d s).2) (fun _ => vall v j dk (actS w rec d' d s).1.1 (actS w rec d' d s).1.2 A))
theorem v_add_err {w0 : World} {A : List HProp} {v j dk n c : Nat} {e : Int} {b : Bool} {d : VD} {s : JV} {rec : List UInt8} {d' : VD} {base : Option Addr} {fd : FuncId} {cap : List Value} (he : e ≠ 0) :
    AddF w0 v j dk (e, b) rec d' d s [.pointer (some ⟨v, 0, none⟩), .int .i64 e, .bool b, .slice base n c, .func (.func fd) #[] cap.toArray] A := by
  have h0 : actS (e, b) rec d' d s = ((d, s), e) := by unfold actS; rw [if_pos he]
  unfold AddF
  rw [h0]
  refine Fun.enter Tryd.func22 rfl Tryd.ntmps22 rfl ?_
  refine WC.seq <| WC.region <| sv (vaI rfl) <| WL.nil <| WX.thenN <| WC.seq <| WC.block <| WC.seq <| WC.region <| sv (vmI rfl) <| sv (vne rfl rfl) <| sv (vaB rfl) <| WL.nil <| WX.thenN <| ?_
  refine WC.ite rfl (fun h1 => ?_) (fun h1 => ?_)
  · -- then
    exact WC.seq <| WC.region <| sv (vmI rfl) <| sv (vaI rfl) <| WL.nil <| WX.thenN <| WC.ret <| WX.blockR <| WX.thenR <| WX.ret1 rfl (()) (trivial) rfl (fun _ h => Sb.own (by repeat' (first | with_reducible exact Sb.all | exact Sb.nil | (apply Sb.cons; focus (first | ((repeat (first | with_reducible exact Tk.here | with_reducible apply Tk.there)); done) | ((repeat (first | exact Tk.here | apply Tk.there)); done))) | apply Sb.drop)) h)
  · -- else
    exact absurd h1 (by simpa using he)
theorem v_add_down {w0 : World} {A : List HProp} {v j dk n c : Nat} {b : Bool} {d : VD} {st : DSt} {nn : Int} {rec : List UInt8} {d' : VD} {base : Option Addr} {fd : FuncId} {cap : List Value} :
    AddF w0 v j dk (0, b) rec d' d ⟨st, nn, true⟩ [.pointer (some ⟨v, 0, none⟩), .int .i64 0, .bool b, .slice base n c, .func (.func fd) #[] cap.toArray] A := by
  have h0 : actS (0, b) rec d' d ⟨st, nn, true⟩ = ((d, ⟨st, nn, true⟩), 20) := by unfold actS; rw [if_neg (by simp), if_pos rfl]
  unfold AddF vall
  rw [h0]
  refine Fun.ex (fun w h => pv_open h) ?_
  rintro ⟨mp, mf, l, fl⟩ hi
  dsimp only [vcl]
  refine Fun.enter Tryd.func22 rfl Tryd.ntmps22 rfl ?_
  refine WC.seq <| WC.region <| sv (vaI rfl) <| WL.nil <| WX.thenN <| WC.seq <| WC.block <| WC.seq <| WC.region <| sv (vmI rfl) <| sv (vne rfl rfl) <| sv (vaB rfl) <| WL.nil <| WX.thenN <| ?_
  refine WC.ite rfl (fun h1 => ?_) (fun h1 => ?_)
  · -- then
    exact absurd rfl h1
  · -- else
    refine WC.seq <| WC.region <| sv (vmP rfl) <| sv (vnil rfl) <| sv (vfldp fl56f3 rfl) <| sv (vldc pl4 rfl) <| sv (vaB rfl) <| WL.nil <| WX.thenN <| ?_
    refine WC.tt rfl ?_
    exact WC.seq <| WC.region <| sv (vaI rfl) <| WL.nil <| WX.thenN <| WC.ret <| WX.blockR <| WX.thenR <| WX.ret1 rfl (()) (trivial) rfl (fun w h => by have h2 := pv_mk (v := v) (j := j) (down := true) hi (Own.sp4 (by repeat' (first | exact Spl.nil | (apply Spl.cons; focus (first | ((repeat (first | with_reducible exact Tk.here | with_reducible apply Tk.there)); done) | ((repeat (first | exact Tk.here | apply Tk.there)); done))))) h); exact Sb.own (by repeat' (first | with_reducible exact Sb.all | exact Sb.nil | (apply Sb.cons; focus (first | ((repeat (first | with_reducible exact Tk.here | with_reducible apply Tk.there)); done) | ((repeat (first | exact Tk.here | apply Tk.there)); done))) | apply Sb.drop)) h2)
theorem v_add_not {w0 : World} {A : List HProp} {v j dk n c : Nat} {d : VD} {st : DSt} {nn : Int} {rec : List UInt8} {d' : VD} {base : Option Addr} {fd : FuncId} {cap : List Value} :
    AddF w0 v j dk (0, false) rec d' d ⟨st, nn, false⟩ [.pointer (some ⟨v, 0, none⟩), .int .i64 0, .bool false, .slice base n c, .func (.func fd) #[] cap.toArray] A := by
  have h0 : actS (0, false) rec d' d ⟨st, nn, false⟩ = ((d, ⟨st, nn, false⟩), 0) := by unfold actS; rw [if_neg (by simp), if_neg (by simp), if_pos rfl]
  unfold AddF vall
  rw [h0]
  refine Fun.ex (fun w h => pv_open h) ?_
  rintro ⟨mp, mf, l, fl⟩ hi
  dsimp only [vcl]
  refine Fun.enter Tryd.func22 rfl Tryd.ntmps22 rfl ?_
  refine WC.seq <| WC.region <| sv (vaI rfl) <| WL.nil <| WX.thenN <| WC.seq <| WC.block <| WC.seq <| WC.region <| sv (vmI rfl) <| sv (vne rfl rfl) <| sv (vaB rfl) <| WL.nil <| WX.thenN <| ?_
  refine WC.ite rfl (fun h1 => ?_) (fun h1 => ?_)
  · -- then
    exact absurd rfl h1
  · -- else
    refine WC.seq <| WC.region <| sv (vmP rfl) <| sv (vnil rfl) <| sv (vfldp fl56f3 rfl) <| sv (vldc pl4 rfl) <| sv (vaB rfl) <| WL.nil <| WX.thenN <| ?_
    refine WC.ff rfl ?_
    refine WC.seq <| WC.region <| sv (vmB rfl) <| sv (vnot rfl) <| sv (vaB rfl) <| WL.nil <| WX.thenN <| ?_
    refine WC.tt rfl ?_
    exact WC.seq <| WC.region <| sv (vaI rfl) <| WL.nil <| WX.thenN <| WC.ret <| WX.blockR <| WX.thenR <| WX.ret1 rfl (()) (trivial) rfl (fun w h => by have h2 := pv_mk (v := v) (j := j) (down := false) hi (Own.sp4 (by repeat' (first | exact Spl.nil | (apply Spl.cons; focus (first | ((repeat (first | with_reducible exact Tk.here | with_reducible apply Tk.there)); done) | ((repeat (first | exact Tk.here | apply Tk.there)); done))))) h); exact Sb.own (by repeat' (first | with_reducible exact Sb.all | exact Sb.nil | (apply Sb.cons; focus (first | ((repeat (first | with_reducible exact Tk.here | with_reducible apply Tk.there)); done) | ((repeat (first | exact Tk.here | apply Tk.there)); done))) | apply Sb.drop)) h2)
theorem v_add_go {w0 : World} {A : List HProp} {v j dk n c : Nat} {d : VD} {st : DSt} {nn : Int} {rec : List UInt8} {d' : VD} {base : Option Addr} {fd : FuncId} {cap : List Value} [hR : Reads w0 A base (u8s rec)] (hct : callT Tryd.prog fd = true) (hk : n = rec.length) (hl : rec.length ≤ 1048576) (hd : 0 ≤ st.deeds ∧ st.deeds + 2 ≤ 9223372036854775807) (hn : 0 ≤ nn ∧ nn + 1 ≤ 9223372036854775807)
    (hdone : ∀ (st' : DSt) (n' : Int), Fun Tryd.prog w0 fd cap (vall v j dk d ⟨st', n', false⟩ A) (Ret w0 (fun _ : Unit => True) (fun _ => .tuple #[]) (fun _ => vall v j dk d' ⟨st', n', false⟩ A))) :
    AddF w0 v j dk (0, true) rec d' d ⟨st, nn, false⟩ [.pointer (some ⟨v, 0, none⟩), .int .i64 0, .bool true, .slice base n c, .func (.func fd) #[] cap.toArray] A := by
  obtain ⟨e, he⟩ : ∃ e, e = (addP vnm rec st).2 := ⟨_, rfl⟩
  obtain ⟨st2, hst2⟩ : ∃ st2, st2 = (addP vnm rec st).1 := ⟨_, rfl⟩
  have h0 : actS (0, true) rec d' d ⟨st, nn, false⟩ = ((if e = 0 then d' else d, ⟨st2, if e = 0 then nn + 1 else nn, decide (e = 20)⟩), e) := by unfold actS; rw [if_neg (by simp), if_neg (by simp), if_neg (by simp), he, hst2]
  unfold AddF vall
  rw [h0]
  have hadd : ∀ {B : List HProp}, RdC w0 B base (u8s rec) → Fun Tryd.prog w0 43 [.pointer (some ⟨j, 0, none⟩), .slice base n c] (cel j (jcells dk vnm nn false) 80 :: pdisk dk st :: B) (Ret w0 (fun _ : Unit => True) (fun _ => .int .i64 e) (fun _ => cel j (jcells dk vnm (if e = 0 then nn + 1 else nn) (decide (e = 20))) 80 :: pdisk dk st2 :: B)) := fun h => by
    rw [he, hst2]; exact journal_add_ok h hk hl (by decide) hd hn
  refine Fun.ex (fun w h => pv_open h) ?_
  rintro ⟨mp, mf, l, fl⟩ hi
  dsimp only [vcl]
  refine Fun.enter Tryd.func22 rfl Tryd.ntmps22 rfl ?_
  refine WC.seq <| WC.region <| sv (vaI rfl) <| WL.nil <| WX.thenN <| WC.seq <| WC.block <| WC.seq <| WC.region <| sv (vmI rfl) <| sv (vne rfl rfl) <| sv (vaB rfl) <| WL.nil <| WX.thenN <| ?_
  refine WC.ite rfl (fun h1 => ?_) (fun h1 => ?_)
  · -- then
    exact absurd rfl h1
  · -- else
    refine WC.seq <| WC.region <| sv (vmP rfl) <| sv (vnil rfl) <| sv (vfldp fl56f3 rfl) <| sv (vldc pl4 rfl) <| sv (vaB rfl) <| WL.nil <| WX.thenN <| ?_
    refine WC.ff rfl ?_
    refine WC.seq <| WC.region <| sv (vmB rfl) <| sv (vnot rfl) <| sv (vaB rfl) <| WL.nil <| WX.thenN <| ?_
    refine WC.ff rfl ?_
    refine WC.skip <| WX.blockN <| WX.thenN <| WC.seq <| WC.region <| sv (vmP rfl) <| sv (vnil rfl) <| sv (vfldp fl56f2 rfl) <| sv (vldc pl49 rfl) <| sv (vmS rfl) <| clx (by repeat' (first | with_reducible exact Sb.all | exact Sb.nil | (apply Sb.cons; focus (first | ((repeat (first | with_reducible exact Tk.here | with_reducible apply Tk.there)); done) | ((repeat (first | exact Tk.here | apply Tk.there)); done))) | apply Sb.drop)) (hadd reads) ct43 rfl fun r3 hr3 => ?_
    refine sv (vaI rfl) <| WL.nil <| WX.thenN <| WC.seq <| WC.seq <| WC.region <| sv (vmI rfl) <| WL.nil <| WX.thenN <| WC.block <| WC.seq <| WC.region <| sv (veq rfl rfl) <| sv (vaB rfl) <| WL.nil <| WX.thenN <| ?_
    refine WC.ite rfl (fun h4 => ?_) (fun h4 => ?_)
    · -- then
      subst h4
      exact WC.region <| sv (vmF rfl) <| pm (fun _ h => (show Own w0 (pv v j false d :: cel j (jcells dk vnm (nn + 1) false) 80 :: pdisk dk st2 :: A) _ from by have h2 := pv_mk (v := v) (j := j) (down := false) hi (Own.sp4 (by repeat' (first | exact Spl.nil | (apply Spl.cons; focus (first | ((repeat (first | with_reducible exact Tk.here | with_reducible apply Tk.there)); done) | ((repeat (first | exact Tk.here | apply Tk.there)); done))))) h); exact Sb.own (by repeat' (first | with_reducible exact Sb.all | exact Sb.nil | (apply Sb.cons; focus (first | ((repeat (first | with_reducible exact Tk.here | with_reducible apply Tk.there)); done) | ((repeat (first | exact Tk.here | apply Tk.there)); done))) | apply Sb.drop)) h2)) <| clvx (cap := cap) (by repeat' (first | with_reducible exact Sb.all | exact Sb.nil | (apply Sb.cons; focus (first | ((repeat (first | with_reducible exact Tk.here | with_reducible apply Tk.there)); done) | ((repeat (first | exact Tk.here | apply Tk.there)); done))) | apply Sb.drop)) (hdone st2 (nn + 1)) hct rfl rfl fun r4 hr4 =>WL.nil <| WX.blockN <| WX.thenN <| WC.seq <| WC.region <| sv (vmI rfl) <| sv (vaI rfl) <| WL.nil <| WX.thenN <| WC.ret <| WX.ret1 rfl (()) (trivial) rfl (fun _ h => Sb.own (by repeat' (first | with_reducible exact Sb.all | exact Sb.nil | (apply Sb.cons; focus (first | ((repeat (first | with_reducible exact Tk.here | with_reducible apply Tk.there)); done) | ((repeat (first | exact Tk.here | apply Tk.there)); done))) | apply Sb.drop)) h)
    · -- else
      refine WC.seq <| WC.region <| sv (veq rfl rfl) <| sv (vaB rfl) <| WL.nil <| WX.thenN <| ?_
      refine WC.ite rfl (fun h5 => ?_) (fun h5 => ?_)
      · -- then
        subst h5
        exact WC.region <| sv (vmP rfl) <| sv (vnil rfl) <| sv (vfldp fl56f3 rfl) <| stp (v := .bool _) pl4 sz4 rfl rfl rfl <| WL.nil <| WX.blockN <| WX.thenN <| WC.seq <| WC.region <| sv (vmI rfl) <| sv (vaI rfl) <| WL.nil <| WX.thenN <| WC.ret <| WX.ret1 rfl (()) (trivial) rfl (fun w h => by have h2 := pv_mk (v := v) (j := j) (down := true) hi (Own.sp4 (by repeat' (first | exact Spl.nil | (apply Spl.cons; focus (first | ((repeat (first | with_reducible exact Tk.here | with_reducible apply Tk.there)); done) | ((repeat (first | exact Tk.here | apply Tk.there)); done))))) h); exact Sb.own (by repeat' (first | with_reducible exact Sb.all | exact Sb.nil | (apply Sb.cons; focus (first | ((repeat (first | with_reducible exact Tk.here | with_reducible apply Tk.there)); done) | ((repeat (first | exact Tk.here | apply Tk.there)); done))) | apply Sb.drop)) h2)
      · -- else
        rw [if_neg h4, if_neg h4, decide_eq_false h5]
        exact WC.skip <| WX.blockN <| WX.thenN <| WC.seq <| WC.region <| sv (vmI rfl) <| sv (vaI rfl) <| WL.nil <| WX.thenN <| WC.ret <| WX.ret1 rfl (()) (trivial) rfl (fun w h => by have h2 := pv_mk (v := v) (j := j) (down := false) hi (Own.sp4 (by repeat' (first | exact Spl.nil | (apply Spl.cons; focus (first | ((repeat (first | with_reducible exact Tk.here | with_reducible apply Tk.there)); done) | ((repeat (first | exact Tk.here | apply Tk.there)); done))))) h); exact Sb.own (by repeat' (first | with_reducible exact Sb.all | exact Sb.nil | (apply Sb.cons; focus (first | ((repeat (first | with_reducible exact Tk.here | with_reducible apply Tk.there)); done) | ((repeat (first | exact Tk.here | apply Tk.there)); done))) | apply Sb.drop)) h2)
end Go.Proofs.YthljpljbpbkkcaaDoor
