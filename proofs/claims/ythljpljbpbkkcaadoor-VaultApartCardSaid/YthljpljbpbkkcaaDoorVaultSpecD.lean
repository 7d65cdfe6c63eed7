/-
  Layer 16: a record is written, and done.
-/
import Derived.Test.YthljpljbpbkkcaaDoorVaultSpecC
import Derived.Test.YthljpljbpbkkcaaDoorJournalSpecB
import Derived.Test.YthljpljbpbkkcaaDoorPackSpecA
set_option linter.unusedVariables false
set_option linter.unusedSimpArgs false
set_option maxRecDepth 4000
namespace Go.Proofs.YthljpljbpbkkcaaDoor
open Go.Sl Go.RowKit Go.Pack Go.Vault Go.Journal

abbrev vnm : ByteArray := ByteArray.mk #[118, 97, 117, 108, 116]
/-- a vault's journal: its disk, how many records, whether it is sick -/
structure JV where
  st : DSt
  n : Int
  sick : Bool
/-- a call that may be done, is done: what is there, and the answer -/
def actS (w : Int × Bool) (rec : List UInt8) (d' d : VD) (s : JV) : (VD × JV) × Int :=
  if w.1 ≠ 0 then ((d, s), w.1) else if s.sick = true then ((d, s), 20) else if w.2 = false then ((d, s), 0) else
    ((if (addP vnm rec s.st).2 = 0 then d' else d, ⟨(addP vnm rec s.st).1, if (addP vnm rec s.st).2 = 0 then s.n + 1 else s.n, decide ((addP vnm rec s.st).2 = 20)⟩), (addP vnm rec s.st).2)
def putS (k : PK) (b : List UInt8) (d : VD) (s : JV) : (VD × JV) × Int := actS (whyPut d k) (recPut k b) (putD d k b) d s
def dropS (f : ByteArray) (n : Int) (d : VD) (s : JV) : (VD × JV) × Int := actS (whyDrop d f n) (recDrop f n) (dropD d f n) d s
abbrev vall (v j dk : Nat) (d : VD) (s : JV) (A : List HProp) : List HProp := pv v j s.sick d :: cel j (jcells dk vnm s.n s.sick) 80 :: pdisk dk s.st :: A
abbrev AddF (w0 : World) (v j dk : Nat) (w : Int × Bool) (rec : List UInt8) (d' d : VD) (s : JV) (args : List Value) (A : List HProp) : Prop :=
  Fun Tryd.prog w0 22 args (vall v j dk d s A) (Ret w0 (fun _ : Unit => True) (fun _ => .int .i64 (actS w rec d' d s).2) (fun _ => vall v j dk (actS w rec d' d s).1.1 (actS w rec d' d s).1.2 A))
theorem v_add_err {w0 : World} {A : List HProp} {v j dk n c : Nat} {e : Int} {b : Bool} {d : VD} {s : JV} {rec : List UInt8} {d' : VD} {base : Option Addr} {fd : FuncId} {cap : List Value} (he : e ≠ 0) :
    AddF w0 v j dk (e, b) rec d' d s [.pointer (some ⟨v, 0, none⟩), .int .i64 e, .bool b, .slice base n c, .func (.func fd) #[] cap.toArray] A := by
  have h0 : actS (e, b) rec d' d s = ((d, s), e) := by unfold actS; rw [if_pos he]
  unfold AddF
  rw [h0]
  refine Fun.enter Tryd.func22 rfl Tryd.ntmps22 rfl ?_
  refine WC.seq <| WC.region <| sv (vaI rfl) <| WL.nil <| WX.thenN <| WC.seq <| WC.block <| WC.seq <| WC.region <| sv (vmI rfl) <| sv (vne rfl rfl) <| sv (vaB rfl) <| WL.nil <| WX.thenN <| ?_
  refine WC.ite rfl (fun h1 => ?_) (fun h1 => ?_)
  · -- then
    exact WC.seq <| WC.region <| sv (vmI rfl) <| sv (vaI rfl) <| WL.nil <| WX.thenN <| WC.ret <| WX.blockR <| WX.thenR <| WX.ret1 rfl (()) (trivial) rfl (fun _ h => Sb.own (by repeat' (first | with_reducible exact Sb.all | exact Sb.nil | (apply Sb.cons; focus (first | ((repeat (first | with_reducible exact Tk.here | with_reducible apply Tk.there)); done) | ((repeat (first | exact Tk.here | apply Tk.there)); done))) | apply Sb.drop)) h)
  · -- else
    exact absurd h1 (by simpa using he)
theorem v_add_down {w0 : World} {A : List HProp} {v j dk n c : Nat} {b : Bool} {d : VD} {st : DSt} {nn : Int} {rec : List UInt8} {d' : VD} {base : Option Addr} {fd : FuncId} {cap : List Value} :
    AddF w0 v j dk (0, b) rec d' d ⟨st, nn, true⟩ [.pointer (some ⟨v, 0, none⟩), .int .i64 0, .bool b, .slice base n c, .func (.func fd) #[] cap.toArray] A := by
  have h0 : actS (0, b) rec d' d ⟨st, nn, true⟩ = ((d, ⟨st, nn, true⟩), 20) := by unfold actS; rw [if_neg (by simp), if_pos rfl]
  unfold AddF vall
  rw [h0]
  refine Fun.ex (fun w h => pv_open h) ?_
  rintro ⟨mp, mf, l, fl⟩ hi
  dsimp only [vcl]
  refine Fun.enter Tryd.func22 rfl Tryd.ntmps22 rfl ?_
  refine WC.seq <| WC.region <| sv (vaI rfl) <| WL.nil <| WX.thenN <| WC.seq <| WC.block <| WC.seq <| WC.region <| sv (vmI rfl) <| sv (vne rfl rfl) <| sv (vaB rfl) <| WL.nil <| WX.thenN <| ?_
  refine WC.ite rfl (fun h1 => ?_) (fun h1 => ?_)
  · -- then
    exact absurd rfl h1
  · -- else
    refine WC.seq <| WC.region <| sv (vmP rfl) <| sv (vnil rfl) <| sv (vfldp fl56f3 rfl) <| sv (vldc pl4 rfl) <| sv (vaB rfl) <| WL.nil <| WX.thenN <| ?_
    refine WC.tt rfl ?_
    exact WC.seq <| WC.region <| sv (vaI rfl) <| WL.nil <| WX.thenN <| WC.ret <| WX.blockR <| WX.thenR <| WX.ret1 rfl (()) (trivial) rfl (fun w h => by have h2 := pv_mk (v := v) (j := j) (down := true) hi (Own.sp4 (by repeat' (first | exact Spl.nil | (apply Spl.cons; focus (first | ((repeat (first | with_reducible exact Tk.here | with_reducible apply Tk.there)); done) | ((repeat (first | exact Tk.here | apply Tk.there)); done))))) h); exact Sb.own (by repeat' (first | with_reducible exact Sb.all | exact Sb.nil | (apply Sb.cons; focus (first | ((repeat (first | with_reducible exact Tk.here | with_reducible apply Tk.there)); done) | ((repeat (first | exact Tk.here | apply Tk.there)); done))) | apply Sb.drop)) h2)
theorem v_add_not {w0 : World} {A : List HProp} {v j dk n c : Nat} {d : VD} {st : DSt} {nn : Int} {rec : List UInt8} {d' : VD} {base : Option Addr} {fd : FuncId} {cap : List Value} :
    AddF w0 v j dk (0, false) rec d' d ⟨st, nn, false⟩ [.pointer (some ⟨v, 0, none⟩), .int .i64 0, .bool false, .slice base n c, .func (.func fd) #[] cap.toArray] A := by
  have h0 : actS (0, false) rec d' d ⟨st, nn, false⟩ = ((d, ⟨st, nn, false⟩), 0) := by unfold actS; rw [if_neg (by simp), if_neg (by simp), if_pos rfl]
  unfold AddF vall
  rw [h0]
  refine Fun.ex (fun w h => pv_open h) ?_
  rintro ⟨mp, mf, l, fl⟩ hi
  dsimp only [vcl]
  refine Fun.enter Tryd.func22 rfl Tryd.ntmps22 rfl ?_
  refine WC.seq <| WC.region <| sv (vaI rfl) <| WL.nil <| WX.thenN <| WC.seq <| WC.block <| WC.seq <| WC.region <| sv (vmI rfl) <| sv (vne rfl rfl) <| sv (vaB rfl) <| WL.nil <| WX.thenN <| ?_
  refine WC.ite rfl (fun h1 => ?_) (fun h1 => ?_)
  · -- then
    exact absurd rfl h1
  · -- else
    refine WC.seq <| WC.region <| sv (vmP rfl) <| sv (vnil rfl) <| sv (vfldp fl56f3 rfl) <| sv (vldc pl4 rfl) <| sv (vaB rfl) <| WL.nil <| WX.thenN <| ?_
    refine WC.ff rfl ?_
    refine WC.seq <| WC.region <| sv (vmB rfl) <| sv (vnot rfl) <| sv (vaB rfl) <| WL.nil <| WX.thenN <| ?_
    refine WC.tt rfl ?_
    exact WC.seq <| WC.region <| sv (vaI rfl) <| WL.nil <| WX.thenN <| WC.ret <| WX.blockR <| WX.thenR <| WX.ret1 rfl (()) (trivial) rfl (fun w h => by have h2 := pv_mk (v := v) (j := j) (down := false) hi (Own.sp4 (by repeat' (first | exact Spl.nil | (apply Spl.cons; focus (first | ((repeat (first | with_reducible exact Tk.here | with_reducible apply Tk.there)); done) | ((repeat (first | exact Tk.here | apply Tk.there)); done))))) h); exact Sb.own (by repeat' (first | with_reducible exact Sb.all | exact Sb.nil | (apply Sb.cons; focus (first | ((repeat (first | with_reducible exact Tk.here | with_reducible apply Tk.there)); done) | ((repeat (first | exact Tk.here | apply Tk.there)); done))) | apply Sb.drop)) h2)
theorem v_add_go {w0 : World} {A : List HProp} {v j dk n c : Nat} {d : VD} {st : DSt} {nn : Int} {rec : List UInt8} {d' : VD} {base : Option Addr} {fd : FuncId} {cap : List Value} [hR : Reads w0 A base (u8s rec)] (hct : callT Tryd.prog fd = true) (hk : n = rec.length) (hl : rec.length ≤ 1048576) (hd : 0 ≤ st.deeds ∧ st.deeds + 2 ≤ 9223372036854775807) (hn : 0 ≤ nn ∧ nn + 1 ≤ 9223372036854775807)
    (hdone : ∀ (st' : DSt) (n' : Int), Fun Tryd.prog w0 fd cap (vall v j dk d ⟨st', n', false⟩ A) (Ret w0 (fun _ : Unit => True) (fun _ => .tuple #[]) (fun _ => vall v j dk d' ⟨st', n', false⟩ A))) :
    AddF w0 v j dk (0, true) rec d' d ⟨st, nn, false⟩ [.pointer (some ⟨v, 0, none⟩), .int .i64 0, .bool true, .slice base n c, .func (.func fd) #[] cap.toArray] A := by
  obtain ⟨e, he⟩ : ∃ e, e = (addP vnm rec st).2 := ⟨_, rfl⟩
  obtain ⟨st2, hst2⟩ : ∃ st2, st2 = (addP vnm rec st).1 := ⟨_, rfl⟩
  have h0 : actS (0, true) rec d' d ⟨st, nn, false⟩ = ((if e = 0 then d' else d, ⟨st2, if e = 0 then nn + 1 else nn, decide (e = 20)⟩), e) := by unfold actS; rw [if_neg (by simp), if_neg (by simp), if_neg (by simp), he, hst2]
  unfold AddF vall
  rw [h0]
  have hadd : ∀ {B : List HProp}, RdC w0 B base (u8s rec) → Fun Tryd.prog w0 43 [.pointer (some ⟨j, 0, none⟩), .slice base n c] (cel j (jcells dk vnm nn false) 80 :: pdisk dk st :: B) (Ret w0 (fun _ : Unit => True) (fun _ => .int .i64 e) (fun _ => cel j (jcells dk vnm (if e = 0 then nn + 1 else nn) (decide (e = 20))) 80 :: pdisk dk st2 :: B)) := fun h => by
    rw [he, hst2]; exact journal_add_ok h hk hl (by decide) hd hn
  refine Fun.ex (fun w h => pv_open h) ?_
  rintro ⟨mp, mf, l, fl⟩ hi
  dsimp only [vcl]
  refine Fun.enter Tryd.func22 rfl Tryd.ntmps22 rfl ?_
  refine WC.seq <| WC.region <| sv (vaI rfl) <| WL.nil <| WX.thenN <| WC.seq <| WC.block <| WC.seq <| WC.region <| sv (vmI rfl) <| sv (vne rfl rfl) <| sv (vaB rfl) <| WL.nil <| WX.thenN <| ?_
  refine WC.ite rfl (fun h1 => ?_) (fun h1 => ?_)
  · -- then
    exact absurd rfl h1
  · -- else
    refine WC.seq <| WC.region <| sv (vmP rfl) <| sv (vnil rfl) <| sv (vfldp fl56f3 rfl) <| sv (vldc pl4 rfl) <| sv (vaB rfl) <| WL.nil <| WX.thenN <| ?_
    refine WC.ff rfl ?_
    refine WC.seq <| WC.region <| sv (vmB rfl) <| sv (vnot rfl) <| sv (vaB rfl) <| WL.nil <| WX.thenN <| ?_
    refine WC.ff rfl ?_
    refine WC.skip <| WX.blockN <| WX.thenN <| WC.seq <| WC.region <| sv (vmP rfl) <| sv (vnil rfl) <| sv (vfldp fl56f2 rfl) <| sv (vldc pl49 rfl) <| sv (vmS rfl) <| clx (by repeat' (first | with_reducible exact Sb.all | exact Sb.nil | (apply Sb.cons; focus (first | ((repeat (first | with_reducible exact Tk.here | with_reducible apply Tk.there)); done) | ((repeat (first | exact Tk.here | apply Tk.there)); done))) | apply Sb.drop)) (hadd reads) ct43 rfl fun r3 hr3 => ?_
    refine sv (vaI rfl) <| WL.nil <| WX.thenN <| WC.seq <| WC.seq <| WC.region <| sv (vmI rfl) <| WL.nil <| WX.thenN <| WC.block <| WC.seq <| WC.region <| sv (veq rfl rfl) <| sv (vaB rfl) <| WL.nil <| WX.thenN <| ?_
    refine WC.ite rfl (fun h4 => ?_) (fun h4 => ?_)
    · -- then
      subst h4
      exact WC.region <| sv (vmF rfl) <| pm (fun _ h => (show Own w0 (pv v j false d :: cel j (jcells dk vnm (nn + 1) false) 80 :: pdisk dk st2 :: A) _ from by have h2 := pv_mk (v := v) (j := j) (down := false) hi (Own.sp4 (by repeat' (first | exact Spl.nil | (apply Spl.cons; focus (first | ((repeat (first | with_reducible exact Tk.here | with_reducible apply Tk.there)); done) | ((repeat (first | exact Tk.here | apply Tk.there)); done))))) h); exact Sb.own (by repeat' (first | with_reducible exact Sb.all | exact Sb.nil | (apply Sb.cons; focus (first | ((repeat (first | with_reducible exact Tk.here | with_reducible apply Tk.there)); done) | ((repeat (first | exact Tk.here | apply Tk.there)); done))) | apply Sb.drop)) h2)) <| clvx (cap := cap) (by repeat' (first | with_reducible exact Sb.all | exact Sb.nil | (apply Sb.cons; focus (first | ((repeat (first | with_reducible exact Tk.here | with_reducible apply Tk.there)); done) | ((repeat (first | exact Tk.here | apply Tk.there)); done))) | apply Sb.drop)) (hdone st2 (nn + 1)) hct rfl rfl fun r4 hr4 =>WL.nil <| WX.blockN <| WX.thenN <| WC.seq <| WC.region <| sv (vmI rfl) <| sv (vaI rfl) <| WL.nil <| WX.thenN <| WC.ret <| WX.ret1 rfl (()) (trivial) rfl (fun _ h => Sb.own (by repeat' (first | with_reducible exact Sb.all | exact Sb.nil | (apply Sb.cons; focus (first | ((repeat (first | with_reducible exact Tk.here | with_reducible apply Tk.there)); done) | ((repeat (first | exact Tk.here | apply Tk.there)); done))) | apply Sb.drop)) h)
    · -- else
      refine WC.seq <| WC.region <| sv (veq rfl rfl) <| sv (vaB rfl) <| WL.nil <| WX.thenN <| ?_
      refine WC.ite rfl (fun h5 => ?_) (fun h5 => ?_)
      · -- then
        subst h5
        exact WC.region <| sv (vmP rfl) <| sv (vnil rfl) <| sv (vfldp fl56f3 rfl) <| stp (v := .bool _) pl4 sz4 rfl rfl rfl <| WL.nil <| WX.blockN <| WX.thenN <| WC.seq <| WC.region <| sv (vmI rfl) <| sv (vaI rfl) <| WL.nil <| WX.thenN <| WC.ret <| WX.ret1 rfl (()) (trivial) rfl (fun w h => by have h2 := pv_mk (v := v) (j := j) (down := true) hi (Own.sp4 (by repeat' (first | exact Spl.nil | (apply Spl.cons; focus (first | ((repeat (first | with_reducible exact Tk.here | with_reducible apply Tk.there)); done) | ((repeat (first | exact Tk.here | apply Tk.there)); done))))) h); exact Sb.own (by repeat' (first | with_reducible exact Sb.all | exact Sb.nil | (apply Sb.cons; focus (first | ((repeat (first | with_reducible exact Tk.here | with_reducible apply Tk.there)); done) | ((repeat (first | exact Tk.here | apply Tk.there)); done))) | apply Sb.drop)) h2)
      · -- else
        rw [if_neg h4, if_neg h4, decide_eq_false h5]
        exact WC.skip <| WX.blockN <| WX.thenN <| WC.seq <| WC.region <| sv (vmI rfl) <| sv (vaI rfl) <| WL.nil <| WX.thenN <| WC.ret <| WX.ret1 rfl (()) (trivial) rfl (fun w h => by have h2 := pv_mk (v := v) (j := j) (down := false) hi (Own.sp4 (by repeat' (first | exact Spl.nil | (apply Spl.cons; focus (first | ((repeat (first | with_reducible exact Tk.here | with_reducible apply Tk.there)); done) | ((repeat (first | exact Tk.here | apply Tk.there)); done))))) h); exact Sb.own (by repeat' (first | with_reducible exact Sb.all | exact Sb.nil | (apply Sb.cons; focus (first | ((repeat (first | with_reducible exact Tk.here | with_reducible apply Tk.there)); done) | ((repeat (first | exact Tk.here | apply Tk.there)); done))) | apply Sb.drop)) h2)

theorem rsomeV {w0 w : World} {A : List HProp} {base : Option Addr} {vs : List Value} (h0 : 0 < vs.length) (hR : RdC w0 A base vs) (h : Own w0 A w) : base.isSome = true := by
  obtain ⟨a, rfl, _⟩ := hR w h 0 _ (List.getElem?_eq_getElem h0)
  rfl
theorem v_clone {w0 : World} {A : List HProp} {c : Nat} {base : Option Addr} {bs : List UInt8} (hl : bs.length ≤ 1099511627776) [hR : Reads w0 A base (u8s bs)] :
    Fun Tryd.prog w0 24 [.slice base bs.length c] A
      (Ret w0 (fun i : Option Addr × Nat => bs.length ≤ i.2) (fun i => .slice i.1 bs.length i.2) (fun i => row i.1 i.2 1 5 (u8s bs) :: A)) := by
  refine Fun.enter Tryd.func24 rfl Tryd.ntmps24 rfl ?_
  refine WC.seq <| WC.region <| sv (vaS rfl) <| WL.nil <| WX.thenN <| WC.seq <| WC.seq <| WC.region <| sv (vmS rfl) <| sv (vsnl Tryd.underlying25 rfl rfl) <| WL.nil <| WX.thenN <| ?_
  refine WC.iteb rfl (fun h1 => ?_) (fun h1 => ?_)
  · -- then
    refine WC.known (p := bs = []) (fun w h => ?_) fun hnil => ?_
    · rcases Nat.eq_zero_or_pos bs.length with h0 | h0
      · exact List.eq_nil_of_length_eq_zero h0
      · have := rsomeV (base := base) (vs := u8s bs) (by simpa using h0) reads h
        rw [Option.isSome_iff_ne_none] at this
        exact absurd (Option.isNone_iff_eq_none.1 h1) this
    subst hnil
    exact WC.seq <| WC.region <| sv (vaS rfl) <| WL.nil <| WX.thenN <| WC.ret <| WX.thenR <| WX.ret1 rfl ((none, 0)) (by simp) rfl (fun _ h => h.intro_row_nil)
  · -- else
    refine WC.skip <| WX.thenN <| WC.seq <| WC.region <| bsl0 Tryd.underlying25 zt5 fun b1 => sv (vmS rfl) <| pm (fun _ h => Sb.own (by repeat' (first | with_reducible exact Sb.all | exact Sb.nil | (apply Sb.cons; focus (first | ((repeat (first | with_reducible exact Tk.here | with_reducible apply Tk.there)); done) | ((repeat (first | exact Tk.here | apply Tk.there)); done))) | apply Sb.drop)) h) <| ap (vs := u8s []) (news := u8s bs) rfl Tryd.underlying25 zt5 rfl rfl rfl rfl (by simp) (u8s_one bs) reads (by simp only [maxLen]; omega) (by omega) fun base2 c2 hc2 =>?_
    exact sv (vaS rfl) <| WL.nil <| WX.thenN <| WC.ret <| WX.ret1 rfl ((base2, c2)) (by simpa using hc2) (by show Value.slice base2 (0 + bs.length) c2 = _; rw [Nat.zero_add]) (fun _ h => Sb.own (by repeat' (first | with_reducible exact Sb.all | exact Sb.nil | (apply Sb.cons; focus (first | ((repeat (first | with_reducible exact Tk.here | with_reducible apply Tk.there)); done) | ((repeat (first | exact Tk.here | apply Tk.there)); done))) | apply Sb.drop)) h)
theorem pents_snoc (l : List (PK × Sla UInt8)) (k : PK) (s : Sla UInt8) : pents (l ++ [(k, s)]) = pents l ++ [(pkv k, .slice s.base s.xs.length s.cap)] := by simp [pents]
theorem lookP_snoc : ∀ (l : List (PK × Sla UInt8)) (k : PK) (s : Sla UInt8) (q : PK), lookP (l ++ [(k, s)]) q = match lookP l q with | some b => some b | none => if k = q then some s.xs else none
  | [], k, s, q => rfl
  | x :: l, k, s, q => by
    show (if x.1 = q then some x.2.xs else lookP (l ++ [(k, s)]) q) = match (if x.1 = q then some x.2.xs else lookP l q) with | some b => some b | none => if k = q then some s.xs else none
    by_cases h : x.1 = q
    · rw [if_pos h, if_pos h]
    · rw [if_neg h, if_neg h, lookP_snoc l k s q]
theorem VRep.put {d : VD} {mp mf : Nat} {l : List (PK × Sla UInt8)} {fl : List (ByteArray × Int)} {k : PK} {s : Sla UInt8} (h : VRep d ⟨mp, mf, l, fl⟩) (hk : PkOk k) (hn : d.parts k = none) (hc : s.xs.length ≤ s.cap ∧ s.xs.length ≤ 1048576) : VRep (putD d k s.xs) ⟨mp, mf, l ++ [(k, s)], fl⟩ := by
  have hlk := (h.look k).trans hn
  refine ⟨?_, fun q => ?_, fun x hx => ?_, h.ndf, h.floor⟩
  · rw [List.map_append, List.nodup_append]
    refine ⟨h.nd, by simp, fun a ha b hb => ?_⟩
    simp only [List.map_cons, List.map_nil, List.mem_singleton] at hb
    obtain ⟨x, hx, rfl⟩ := List.mem_map.1 ha
    rw [hb]
    intro e
    have := lookP_mem h.nd hx
    rw [e] at this
    exact absurd (this.symm.trans hlk) (by simp)
  · show lookP (l ++ [(k, s)]) q = if q = k then some s.xs else d.parts q
    rw [lookP_snoc, h.look]
    by_cases hq : q = k
    · subst hq
      rw [hn]
    · rw [if_neg hq]
      have hq' : ¬ k = q := fun e => hq e.symm
      cases d.parts q <;> simp [hq']
  · rcases List.mem_append.1 hx with hx | hx
    · exact h.ok x hx
    · simp only [List.mem_singleton] at hx; subst hx; exact ⟨hk, hc⟩
theorem VRep.new_put {d : VD} {mp mf : Nat} {l : List (PK × Sla UInt8)} {fl : List (ByteArray × Int)} {k : PK} {v : Value} (h : VRep d ⟨mp, mf, l, fl⟩) (hn : d.parts k = none) : PutE (pents l) (pkv k) v (pents l ++ [(pkv k, v)]) := .new (pents_none ((h.look k).trans hn))
theorem v_put1 {w0 : World} {A : List HProp} {v j t0 t1 t2 c : Nat} {down : Bool} {d : VD} {k : PK} {base : Option Addr} {bs : List UInt8} (hk : PkOk k) (hn : d.parts k = none) (hl : bs.length ≤ 1048576) [hR : Reads w0 A base (u8s bs)] [h0 : CelAt A t0 [.slice base bs.length c] 25] [h1 : CelAt A t1 [.pointer (some ⟨v, 0, none⟩)] 27] [h2 : CelAt A t2 (pkl k) 62] :
    Fun Tryd.prog w0 23 [.pointer (some ⟨t0, 0, none⟩), .pointer (some ⟨t1, 0, none⟩), .pointer (some ⟨t2, 0, none⟩)] (pv v j down d :: A) (Ret w0 (fun _ : Unit => True) (fun _ => .tuple #[]) (fun _ => pv v j down (putD d k bs) :: A)) := by
  refine Fun.ex (fun w h => pv_open h) ?_
  rintro ⟨mp, mf, l, fl⟩ hi
  dsimp only [vcl]
  refine Fun.enter Tryd.func23 rfl Tryd.ntmps23 rfl ?_
  refine WC.plan (.pre [5] (.one [0, 1, 2, 3, 4] 6 (.bar [] 7 (.done [])))) rfl (by kernel_rfl) <| WPl.preC <| dv (fun g => (vldc pl25 rfl)) <| WD.nil <| WPl.oneE (fun g => by infer_instance) <| dv (fun g => (vldc pl27 rfl)) <| dv (fun g => (vnil rfl)) <| dv (fun g => (vfldpz fl56f0 rfl)) <| dv (fun g => (vldc pl53 rfl)) <| dv (fun g => (vldac ag62 sz62 rfl rfl (by decide))) <| WD.eff rfl <| clx (by repeat' (first | with_reducible exact Sb.all | exact Sb.nil | (apply Sb.cons; focus (first | ((repeat (first | with_reducible exact Tk.here | with_reducible apply Tk.there)); done) | ((repeat (first | exact Tk.here | apply Tk.there)); done))) | apply Sb.drop)) (v_clone (by omega)) ct24 rfl fun r5 hr5 => ?_
  refine WL.nil <| WX.br <| WPl.barC <| WD.eff rfl <| mpupK (k := pkv k) (v := .slice _ _ _) Tryd.underlying53 place_law rfl rfl rfl (kp_ok hk) (hi.new_put hn) ?_
  exact WL.nil <| WX.brT <| WPl.finC <| WD.nil <| WX.end0 rfl (()) (trivial) rfl (fun w h => by have h2 := rows_snoc (e := 5) (y := ⟨r5.1, bs, r5.2⟩) (l := l.map Prod.snd) (Own.sp2 (by repeat' (first | exact Spl.nil | (apply Spl.cons; focus (first | ((repeat (first | with_reducible exact Tk.here | with_reducible apply Tk.there)); done) | ((repeat (first | exact Tk.here | apply Tk.there)); done))))) h); have h3 := pv_mk (v := v) (j := j) (down := down) (d := putD d k bs) (i := ⟨mp, mf, l ++ [(k, ⟨r5.1, bs, r5.2⟩)], fl⟩) (hi.put (s := ⟨r5.1, bs, r5.2⟩) hk hn ⟨hr5, hl⟩) (show Own w0 _ w from by rw [pents_snoc, List.map_append]; exact Own.sp4 (by repeat' (first | exact Spl.nil | (apply Spl.cons; focus (first | ((repeat (first | with_reducible exact Tk.here | with_reducible apply Tk.there)); done) | ((repeat (first | exact Tk.here | apply Tk.there)); done))))) h2); exact Sb.own (by repeat' (first | with_reducible exact Sb.all | exact Sb.nil | (apply Sb.cons; focus (first | ((repeat (first | with_reducible exact Tk.here | with_reducible apply Tk.there)); done) | ((repeat (first | exact Tk.here | apply Tk.there)); done))) | apply Sb.drop)) h3)
theorem v_drop1 {w0 : World} {A : List HProp} {v j t0 t1 t2 : Nat} {down : Bool} {d : VD} {f : ByteArray} {n : Int} [h0 : CelAt A t0 [.pointer (some ⟨v, 0, none⟩)] 27] [h1 : CelAt A t1 [.string f] 9] [h2 : CelAt A t2 [.int .i64 n] 3] :
    Fun Tryd.prog w0 27 [.pointer (some ⟨t0, 0, none⟩), .pointer (some ⟨t1, 0, none⟩), .pointer (some ⟨t2, 0, none⟩)] (pv v j down d :: A) (Ret w0 (fun _ : Unit => True) (fun _ => .tuple #[]) (fun _ => pv v j down (dropD d f n) :: A)) := by
  refine Fun.enter Tryd.func27 rfl Tryd.ntmps27 rfl ?_
  refine WC.region <| sv (vldc pl27 rfl) <| sv (vldc pl9 rfl) <| sv (vldc pl3 rfl) <| clx (by repeat' (first | with_reducible exact Sb.all | exact Sb.nil | (apply Sb.cons; focus (first | ((repeat (first | with_reducible exact Tk.here | with_reducible apply Tk.there)); done) | ((repeat (first | exact Tk.here | apply Tk.there)); done))) | apply Sb.drop)) (v_drop) ct28 rfl fun r4 hr4 => ?_
  exact WL.nil <| WX.end0 rfl (()) (trivial) rfl (fun _ h => Sb.own (by repeat' (first | with_reducible exact Sb.all | exact Sb.nil | (apply Sb.cons; focus (first | ((repeat (first | with_reducible exact Tk.here | with_reducible apply Tk.there)); done) | ((repeat (first | exact Tk.here | apply Tk.there)); done))) | apply Sb.drop)) h)

theorem pk_num {w0 : World} {A : List HProp} {base : Option Addr} {n c : Nat} {x : Int} {out : List UInt8} (bs : List UInt8) (hR : RdC w0 A base (u8s bs)) (hn : n = bs.length) (ho : out = bs ++ num x) (hb : bs.length ≤ 140737488351232) (hx : -9223372036854775808 ≤ x ∧ x ≤ 9223372036854775807) :
    Fun Tryd.prog w0 20 [.slice base n c, .int .i64 x] A (Ret w0 (fun i : Option Addr × Nat => out.length ≤ i.2) (fun i => .slice i.1 out.length i.2) (fun i => row i.1 i.2 1 5 (u8s out) :: A)) := by
  subst hn; subst ho
  rw [List.length_append]
  exact pack_num (hR := ⟨hR⟩) hb hx
theorem pk_text {w0 : World} {A : List HProp} {base : Option Addr} {n c : Nat} {s : ByteArray} {out : List UInt8} (bs : List UInt8) (hR : RdC w0 A base (u8s bs)) (hn : n = bs.length) (ho : out = bs ++ text s.data.toList) (hb : bs.length ≤ 140737488351232) (hs : bs.length + s.size ≤ 140737488351232) :
    Fun Tryd.prog w0 21 [.slice base n c, .string s] A (Ret w0 (fun i : Option Addr × Nat => out.length ≤ i.2) (fun i => .slice i.1 out.length i.2) (fun i => row i.1 i.2 1 5 (u8s out) :: A)) := by
  subst hn; subst ho
  rw [List.length_append]
  exact pack_text (hR := ⟨hR⟩) hb hs
theorem text_len (l : List UInt8) (h : l.length ≤ 1099511627776) : (text l).length ≤ l.length + 10 := by
  have := num_len (x := (l.length : Int)) (by omega)
  unfold text
  rw [List.length_append]; omega
/-- a call that may be done is done -/
theorem v_add {w0 : World} {A : List HProp} {v j dk n c : Nat} {w : Int × Bool} {d : VD} {s : JV} {rec : List UInt8} {d' : VD} {base : Option Addr} {fd : FuncId} {cap : List Value} (hR : RdC w0 A base (u8s rec)) (hct : callT Tryd.prog fd = true) (hk : n = rec.length) (hl : rec.length ≤ 1048576) (hd : 0 ≤ s.st.deeds ∧ s.st.deeds + 2 ≤ 9223372036854775807) (hn : 0 ≤ s.n ∧ s.n + 1 ≤ 9223372036854775807)
    (hdone : w = (0, true) → ∀ (st' : DSt) (n' : Int), Fun Tryd.prog w0 fd cap (vall v j dk d ⟨st', n', false⟩ A) (Ret w0 (fun _ : Unit => True) (fun _ => .tuple #[]) (fun _ => vall v j dk d' ⟨st', n', false⟩ A))) :
    AddF w0 v j dk w rec d' d s [.pointer (some ⟨v, 0, none⟩), .int .i64 w.1, .bool w.2, .slice base n c, .func (.func fd) #[] cap.toArray] A := by
  obtain ⟨e, b⟩ := w
  obtain ⟨st, nn, sick⟩ := s
  by_cases he : e = 0
  · subst he
    cases sick with
    | true => exact v_add_down
    | false =>
      cases b with
      | false => exact v_add_not
      | true => exact v_add_go (hR := ⟨hR⟩) hct hk hl hd hn (hdone rfl)
  · exact v_add_err he
theorem whyPut_do {d : VD} {k : PK} (h : whyPut d k = (0, true)) : d.parts k = none := by
  unfold whyPut at h
  split at h
  · cases h
  · split at h
    · cases h
    · split at h
      · cases h
      · have := congrArg Prod.snd h
        simpa using this
theorem v_put {w0 : World} {A : List HProp} {v j dk c : Nat} {d : VD} {s : JV} {k : PK} {base : Option Addr} {bs : List UInt8} [hR : Reads w0 A base (u8s bs)] (hk : PkOk k) (hf : k.flow.size ≤ 4096) (hb : bs.length ≤ 4096) (hd : 0 ≤ s.st.deeds ∧ s.st.deeds + 2 ≤ 9223372036854775807) (hn : 0 ≤ s.n ∧ s.n + 1 ≤ 9223372036854775807) :
    Fun Tryd.prog w0 10 [.pointer (some ⟨v, 0, none⟩), .string k.flow, .int .i64 k.num, .agg #[.int .i64 k.kind, .int .i64 k.n], .slice base bs.length c] (vall v j dk d s A) (Ret w0 (fun _ : Unit => True) (fun _ => .int .i64 (putS k bs d s).2) (fun _ => vall v j dk (putS k bs d s).1.1 (putS k bs d s).1.2 A)) := by
  have l1 := num_len (x := 1) (by omega)
  have l2 := num_len (x := k.num) hk.num
  have l3 := num_len (x := k.kind) hk.kind
  have l4 := num_len (x := k.n) hk.n
  have hfl : k.flow.data.toList.length = k.flow.size := rfl
  have l5 := text_len k.flow.data.toList (by omega)
  have l6 := text_len bs (by omega)
  have hrl : (recPut k bs).length ≤ 1048576 := by unfold recPut; simp only [List.length_append]; omega
  obtain ⟨w, hw⟩ : ∃ w, w = whyPut d k := ⟨_, rfl⟩
  unfold putS
  rw [← hw]
  refine Fun.enter Tryd.func10 rfl Tryd.ntmps10 rfl ?_
  refine WC.seq <| WC.region <| bxc (v := .pointer _) (cs := [.pointer _]) rfl rfl fun b1 => bxc (v := .agg _) (cs := [.int _ _, .int _ _]) rfl rfl fun b2 => bxc (v := .slice _ _ _) (cs := [.slice _ _ _]) rfl rfl fun b3 => sv (vaI rfl) <| WL.nil <| WX.thenN <| WC.seq <| WC.seq <| WC.region <| sv (vldc pl27 rfl) <| sv (vpeqF Tryd.underlying27 rfl rfl) <| WL.nil <| WX.thenN <| ?_
  refine WC.ff rfl ?_
  refine WC.skip <| WX.thenN <| WC.seq <| WC.region <| sv (vmT rfl) <| sv (vmI rfl) <| sv (vldac ag24 sz24 rfl rfl (by decide)) <| sv (vbd (ps := [(0, .string _), (1, .int _ _), (2, .agg _)]) (cs := pkl k) bt62 zt62 rfl (by rfl)) <| alz (cs := [.string ByteArray.empty, .int .i64 0, .int .i64 0, .int .i64 0]) zt62 (by rfl) fun b8 => stAp sz62 rfl rfl rfl (by intro v hv; simp only [List.mem_cons, List.not_mem_nil, or_false] at hv; rcases hv with rfl | rfl | rfl | rfl <;> rfl) rfl <| WL.nil <| WX.thenN <| WC.seq <| WC.region <| sv (vldc pl27 rfl) <| sv (vldac ag62 sz62 rfl rfl (by decide)) <| clx (by repeat' (first | with_reducible exact Sb.all | exact Sb.nil | (apply Sb.cons; focus (first | ((repeat (first | with_reducible exact Tk.here | with_reducible apply Tk.there)); done) | ((repeat (first | exact Tk.here | apply Tk.there)); done))) | apply Sb.drop)) ((show Fun Tryd.prog w0 19 [.pointer (some ⟨v, 0, none⟩), .agg (pkl k).toArray] (pv v j s.sick d :: _) (Ret w0 (fun _ : Unit => True) (fun _ => .tuple #[.int .i64 w.1, .bool w.2]) (fun _ => pv v j s.sick d :: _)) from by rw [hw]; exact v_puts hk)) ct19 rfl fun r12 hr12 => ?_
  refine sv vmv <| sv (vex rfl rfl) <| sv (vex rfl rfl) <| sv (vaI rfl) <| sv (vaB rfl) <| WL.nil <| WX.thenN <| WC.seq <| WC.region <| clx (by repeat' (first | with_reducible exact Sb.all | exact Sb.nil | (apply Sb.cons; focus (first | ((repeat (first | with_reducible exact Tk.here | with_reducible apply Tk.there)); done) | ((repeat (first | exact Tk.here | apply Tk.there)); done))) | apply Sb.drop)) (pk_num (out := num 1) [] RdC.nil rfl rfl (by simp) (by omega)) ct20 rfl fun r13 hr13 => ?_
  refine sv (vmT rfl) <| clx (by repeat' (first | with_reducible exact Sb.all | exact Sb.nil | (apply Sb.cons; focus (first | ((repeat (first | with_reducible exact Tk.here | with_reducible apply Tk.there)); done) | ((repeat (first | exact Tk.here | apply Tk.there)); done))) | apply Sb.drop)) (pk_text (out := num 1 ++ text k.flow.data.toList) (num 1) reads rfl rfl (by omega) (by omega)) ct21 rfl fun r14 hr14 => ?_
  refine sv (vmI rfl) <| clx (by repeat' (first | with_reducible exact Sb.all | exact Sb.nil | (apply Sb.cons; focus (first | ((repeat (first | with_reducible exact Tk.here | with_reducible apply Tk.there)); done) | ((repeat (first | exact Tk.here | apply Tk.there)); done))) | apply Sb.drop)) (pk_num (out := num 1 ++ text k.flow.data.toList ++ num k.num) (num 1 ++ text k.flow.data.toList) reads rfl rfl (by simp only [List.length_append]; omega) hk.num) ct20 rfl fun r15 hr15 => ?_
  refine sv (vaS rfl) <| WL.nil <| WX.thenN <| WC.seq <| WC.plan (.pre [0, 1, 2] (.one [4, 5, 7, 8] 3 (.one [] 6 (.bar [] 9 (.done [10]))))) rfl (by kernel_rfl) <| WPl.preC <| dv (fun g => (vmS rfl)) <| dv (fun g => (vfldpz fl24f0 rfl)) <| dv (fun g => (vldc pl3 rfl)) <| WD.nil <| WPl.oneE (fun g => by infer_instance) <| dv (fun g => (vfldp fl24f1 rfl)) <| dv (fun g => (vldc pl3 rfl)) <| dv (fun g => (vldc pl25 rfl)) <| dv (fun g => (vstr (bs := bs) Tryd.underlying25 Tryd.underlying5 Tryd.underlying9 rfl reads rfl)) <| WD.eff rfl <| clx (by repeat' (first | with_reducible exact Sb.all | exact Sb.nil | (apply Sb.cons; focus (first | ((repeat (first | with_reducible exact Tk.here | with_reducible apply Tk.there)); done) | ((repeat (first | exact Tk.here | apply Tk.there)); done))) | apply Sb.drop)) (pk_num (out := num 1 ++ text k.flow.data.toList ++ num k.num ++ num k.kind) (num 1 ++ text k.flow.data.toList ++ num k.num) reads rfl rfl (by simp only [List.length_append]; omega) hk.kind) ct20 rfl fun r17 hr17 => ?_
  refine WL.nil <| WX.br <| WPl.oneE (fun g => by infer_instance) <| WD.eff rfl <| clx (by repeat' (first | with_reducible exact Sb.all | exact Sb.nil | (apply Sb.cons; focus (first | ((repeat (first | with_reducible exact Tk.here | with_reducible apply Tk.there)); done) | ((repeat (first | exact Tk.here | apply Tk.there)); done))) | apply Sb.drop)) (pk_num (out := num 1 ++ text k.flow.data.toList ++ num k.num ++ num k.kind ++ num k.n) (num 1 ++ text k.flow.data.toList ++ num k.num ++ num k.kind) reads rfl rfl (by simp only [List.length_append]; omega) hk.n) ct20 rfl fun r19 hr19 => ?_
  refine WL.nil <| WX.br <| WPl.barC <| WD.eff rfl <| clx (by repeat' (first | with_reducible exact Sb.all | exact Sb.nil | (apply Sb.cons; focus (first | ((repeat (first | with_reducible exact Tk.here | with_reducible apply Tk.there)); done) | ((repeat (first | exact Tk.here | apply Tk.there)); done))) | apply Sb.drop)) (pk_text (out := recPut k bs) (num 1 ++ text k.flow.data.toList ++ num k.num ++ num k.kind ++ num k.n) reads rfl rfl (by simp only [List.length_append]; omega) (by simp only [List.length_append]; show _ + bs.length ≤ _; omega)) ct21 rfl fun r22 hr22 => ?_
  refine WL.nil <| WX.brT <| WPl.finC <| dv (fun g => (vaS rfl)) <| WD.nil <| WX.thenN <| WC.seq <| WC.region <| sv (vldc pl27 rfl) <| sv (vmI rfl) <| sv (vmB rfl) <| sv (vmS rfl) <| sv (vfn rfl) <| clx (by repeat' (first | with_reducible exact Sb.all | exact Sb.nil | (apply Sb.cons; focus (first | ((repeat (first | with_reducible exact Tk.here | with_reducible apply Tk.there)); done) | ((repeat (first | exact Tk.here | apply Tk.there)); done))) | apply Sb.drop)) (v_add (w := w) (rec := recPut k bs) (d' := putD d k bs) (cap := [.pointer (some ⟨b3, 0, none⟩), .pointer (some ⟨b1, 0, none⟩), .pointer (some ⟨b8, 0, none⟩)]) reads ct23 rfl hrl hd hn (fun h st' n' => v_put1 hk (whyPut_do (hw ▸ h)) (by omega))) ct22 rfl fun r24 hr24 => ?_
  exact sv (vaI rfl) <| WL.nil <| WX.thenN <| WC.ret <| WX.ret1 rfl (()) (trivial) rfl (fun _ h => Sb.own (by repeat' (first | with_reducible exact Sb.all | exact Sb.nil | (apply Sb.cons; focus (first | ((repeat (first | with_reducible exact Tk.here | with_reducible apply Tk.there)); done) | ((repeat (first | exact Tk.here | apply Tk.there)); done))) | apply Sb.drop)) h)
theorem v_dropc {w0 : World} {A : List HProp} {v j dk : Nat} {d : VD} {s : JV} {f : ByteArray} {n : Int} (hf : f.size ≤ 4096) (hn0 : -9223372036854775808 ≤ n ∧ n ≤ 9223372036854775807) (hd : 0 ≤ s.st.deeds ∧ s.st.deeds + 2 ≤ 9223372036854775807) (hn : 0 ≤ s.n ∧ s.n + 1 ≤ 9223372036854775807) :
    Fun Tryd.prog w0 15 [.pointer (some ⟨v, 0, none⟩), .string f, .int .i64 n] (vall v j dk d s A) (Ret w0 (fun _ : Unit => True) (fun _ => .int .i64 (dropS f n d s).2) (fun _ => vall v j dk (dropS f n d s).1.1 (dropS f n d s).1.2 A)) := by
  have l1 := num_len (x := 2) (by omega)
  have l2 := num_len (x := n) hn0
  have hfl : f.data.toList.length = f.size := rfl
  have l5 := text_len f.data.toList (by omega)
  have hrl : (recDrop f n).length ≤ 1048576 := by unfold recDrop; simp only [List.length_append]; omega
  obtain ⟨w, hw⟩ : ∃ w, w = whyDrop d f n := ⟨_, rfl⟩
  unfold dropS
  rw [← hw]
  refine Fun.enter Tryd.func15 rfl Tryd.ntmps15 rfl ?_
  refine WC.seq <| WC.region <| bxc (v := .pointer _) (cs := [.pointer _]) rfl rfl fun b1 => bxc (v := .string _) (cs := [.string _]) rfl rfl fun b2 => bxc (v := .int _ _) (cs := [.int _ _]) rfl rfl fun b3 => sv (vaI rfl) <| WL.nil <| WX.thenN <| WC.seq <| WC.seq <| WC.region <| sv (vldc pl27 rfl) <| sv (vpeqF Tryd.underlying27 rfl rfl) <| WL.nil <| WX.thenN <| ?_
  refine WC.ff rfl ?_
  refine WC.skip <| WX.thenN <| WC.seq <| WC.region <| sv (vldc pl27 rfl) <| sv (vldc pl9 rfl) <| sv (vldc pl3 rfl) <| clx (by repeat' (first | with_reducible exact Sb.all | exact Sb.nil | (apply Sb.cons; focus (first | ((repeat (first | with_reducible exact Tk.here | with_reducible apply Tk.there)); done) | ((repeat (first | exact Tk.here | apply Tk.there)); done))) | apply Sb.drop)) ((show Fun Tryd.prog w0 26 [.pointer (some ⟨v, 0, none⟩), .string f, .int .i64 n] (pv v j s.sick d :: _) (Ret w0 (fun _ : Unit => True) (fun _ => .tuple #[.int .i64 w.1, .bool w.2]) (fun _ => pv v j s.sick d :: _)) from by rw [hw]; exact v_drops (by omega))) ct26 rfl fun r9 hr9 => ?_
  refine sv vmv <| sv (vex rfl rfl) <| sv (vex rfl rfl) <| sv (vaI rfl) <| sv (vaB rfl) <| WL.nil <| WX.thenN <| WC.seq <| WC.plan (.one [0, 1, 2, 4, 6, 8] 3 (.one [] 5 (.one [] 7 (.bar [] 9 (.done [10]))))) rfl (by kernel_rfl) <| WPl.oneE (fun g => by infer_instance) <| dv (fun g => (vldc pl27 rfl)) <| dv (fun g => (vmI rfl)) <| dv (fun g => (vmB rfl)) <| dv (fun g => (vldc pl9 rfl)) <| dv (fun g => (vldc pl3 rfl)) <| dv (fun g => (vfn rfl)) <| WD.eff rfl <| clx (by repeat' (first | with_reducible exact Sb.all | exact Sb.nil | (apply Sb.cons; focus (first | ((repeat (first | with_reducible exact Tk.here | with_reducible apply Tk.there)); done) | ((repeat (first | exact Tk.here | apply Tk.there)); done))) | apply Sb.drop)) (pk_num (out := num 2) [] RdC.nil rfl rfl (by simp) (by omega)) ct20 rfl fun r11 hr11 => ?_
  refine WL.nil <| WX.br <| WPl.oneE (fun g => by infer_instance) <| WD.eff rfl <| clx (by repeat' (first | with_reducible exact Sb.all | exact Sb.nil | (apply Sb.cons; focus (first | ((repeat (first | with_reducible exact Tk.here | with_reducible apply Tk.there)); done) | ((repeat (first | exact Tk.here | apply Tk.there)); done))) | apply Sb.drop)) (pk_text (out := num 2 ++ text f.data.toList) (num 2) reads rfl rfl (by omega) (by omega)) ct21 rfl fun r13 hr13 => ?_
  refine WL.nil <| WX.br <| WPl.oneE (fun g => by infer_instance) <| WD.eff rfl <| clx (by repeat' (first | with_reducible exact Sb.all | exact Sb.nil | (apply Sb.cons; focus (first | ((repeat (first | with_reducible exact Tk.here | with_reducible apply Tk.there)); done) | ((repeat (first | exact Tk.here | apply Tk.there)); done))) | apply Sb.drop)) (pk_num (out := recDrop f n) (num 2 ++ text f.data.toList) reads rfl rfl (by simp only [List.length_append]; omega) hn0) ct20 rfl fun r15 hr15 => ?_
  refine WL.nil <| WX.br <| WPl.barC <| WD.eff rfl <| clx (by repeat' (first | with_reducible exact Sb.all | exact Sb.nil | (apply Sb.cons; focus (first | ((repeat (first | with_reducible exact Tk.here | with_reducible apply Tk.there)); done) | ((repeat (first | exact Tk.here | apply Tk.there)); done))) | apply Sb.drop)) (v_add (w := w) (rec := recDrop f n) (d' := dropD d f n) (cap := [.pointer (some ⟨b1, 0, none⟩), .pointer (some ⟨b2, 0, none⟩), .pointer (some ⟨b3, 0, none⟩)]) reads ct27 rfl hrl hd hn (fun h st' n' => v_drop1)) ct22 rfl fun r16 hr16 => ?_
  exact WL.nil <| WX.brT <| WPl.finC <| dv (fun g => (vaI rfl)) <| WD.nil <| WX.thenN <| WC.ret <| WX.ret1 rfl (()) (trivial) rfl (fun _ h => Sb.own (by repeat' (first | with_reducible exact Sb.all | exact Sb.nil | (apply Sb.cons; focus (first | ((repeat (first | with_reducible exact Tk.here | with_reducible apply Tk.there)); done) | ((repeat (first | exact Tk.here | apply Tk.there)); done))) | apply Sb.drop)) h)
theorem v_get_none {w0 : World} {A : List HProp} {v j : Nat} {dn : Bool} {d : VD} {k : PK} (hk : PkOk k) (h0 : d.parts k = none) : Fun Tryd.prog w0 13 [.pointer (some ⟨v, 0, none⟩), .string k.flow, .int .i64 k.num, .agg #[.int .i64 k.kind, .int .i64 k.n]] (pv v j dn d :: A) (Ret w0 (fun _ : Unit => True) (fun _ => .tuple #[.slice none 0 0, .int .i64 6]) (fun _ => pv v j dn d :: A)) := by
  refine Fun.ex (fun w h => pv_open h) ?_
  rintro ⟨mp, mf, l, fl⟩ hi
  dsimp only [vcl]
  refine Fun.enter Tryd.func13 rfl Tryd.ntmps13 rfl ?_
  refine WC.seq <| WC.region <| bxc (v := .agg _) (cs := [.int _ _, .int _ _]) rfl rfl fun b1 => sv (vaS rfl) <| sv (vaI rfl) <| WL.nil <| WX.thenN <| WC.seq <| WC.seq <| WC.region <| sv (vmP rfl) <| sv (vpeqF Tryd.underlying27 rfl rfl) <| WL.nil <| WX.thenN <| ?_
  refine WC.ff rfl ?_
  refine WC.skip <| WX.thenN <| WC.seq <| WC.draws rfl (by kernel_rfl) <| qv (vmP rfl) <| qv (vnil rfl) <| qv (vfldpz fl56f0 rfl) <| qv (vldc pl53 rfl) <| qv (vmT rfl) <| qv (vmI rfl) <| qv (vldac ag24 sz24 rfl rfl (by decide)) <| qv (vbd (ps := [(0, .string _), (1, .int _ _), (2, .agg _)]) (cs := pkl k) bt62 zt62 rfl (by rfl)) <| qv (vlkzK (okf := true) Tryd.underlying53 place_law zt25 rfl rfl (kp_ok hk) (pents_none ((hi.look k).trans h0))) <| qv vmv <| qv (vex rfl rfl) <| qv (vex rfl rfl) <| qv (vaS rfl) <| qv (vaB rfl) <| WQ.nil <| WX.thenN <| WC.seq <| WC.seq <| WC.region <| sv (vmB rfl) <| sv (vnot rfl) <| WL.nil <| WX.thenN <| ?_
  refine WC.tt rfl ?_
  exact WC.seq <| WC.region <| sv (vaS rfl) <| sv (vaI rfl) <| WL.nil <| WX.thenN <| WC.ret <| WX.thenR <| WX.ret2 rfl (()) (trivial) rfl (fun w h => by have h2 := pv_mk (v := v) (j := j) (down := dn) hi (Own.sp4 (by repeat' (first | exact Spl.nil | (apply Spl.cons; focus (first | ((repeat (first | with_reducible exact Tk.here | with_reducible apply Tk.there)); done) | ((repeat (first | exact Tk.here | apply Tk.there)); done))))) h); exact Sb.own (by repeat' (first | with_reducible exact Sb.all | exact Sb.nil | (apply Sb.cons; focus (first | ((repeat (first | with_reducible exact Tk.here | with_reducible apply Tk.there)); done) | ((repeat (first | exact Tk.here | apply Tk.there)); done))) | apply Sb.drop)) h2)
theorem v_get_some {w0 : World} {A : List HProp} {v j : Nat} {dn : Bool} {d : VD} {k : PK} {b : List UInt8} (hk : PkOk k) (h0 : d.parts k = some b) : Fun Tryd.prog w0 13 [.pointer (some ⟨v, 0, none⟩), .string k.flow, .int .i64 k.num, .agg #[.int .i64 k.kind, .int .i64 k.n]] (pv v j dn d :: A) (Ret w0 (fun i : Option Addr × Nat => b.length ≤ i.2) (fun i => .tuple #[.slice i.1 b.length i.2, .int .i64 0]) (fun i => row i.1 i.2 1 5 (u8s b) :: pv v j dn d :: A)) := by
  refine Fun.ex (fun w h => pv_open h) ?_
  rintro ⟨mp, mf, l, fl⟩ hi
  obtain ⟨jj, x, hj, hxk, rfl⟩ := lookP_some ((hi.look k).trans h0)
  have hok := (hi.ok x (List.mem_of_getElem? hj)).2
  have hpe := pents_at hj
  rw [hxk] at hpe
  dsimp only [vcl] at hpe ⊢
  refine Fun.enter Tryd.func13 rfl Tryd.ntmps13 rfl ?_
  refine WC.seq <| WC.region <| bxc (v := .agg _) (cs := [.int _ _, .int _ _]) rfl rfl fun b1 => sv (vaS rfl) <| sv (vaI rfl) <| WL.nil <| WX.thenN <| WC.seq <| WC.seq <| WC.region <| sv (vmP rfl) <| sv (vpeqF Tryd.underlying27 rfl rfl) <| WL.nil <| WX.thenN <| ?_
  refine WC.ff rfl ?_
  refine WC.skip <| WX.thenN <| WC.seq <| WC.draws rfl (by kernel_rfl) <| qv (vmP rfl) <| qv (vnil rfl) <| qv (vfldpz fl56f0 rfl) <| qv (vldc pl53 rfl) <| qv (vmT rfl) <| qv (vmI rfl) <| qv (vldac ag24 sz24 rfl rfl (by decide)) <| qv (vbd (ps := [(0, .string _), (1, .int _ _), (2, .agg _)]) (cs := pkl k) bt62 zt62 rfl (by rfl)) <| qv (vlkK (okf := true) Tryd.underlying53 place_law rfl rfl (kp_ok hk) hpe) <| qv vmv <| qv (vex rfl rfl) <| qv (vex rfl rfl) <| qv (vaS rfl) <| qv (vaB rfl) <| WQ.nil <| WX.thenN <| WC.seq <| WC.seq <| WC.region <| sv (vmB rfl) <| sv (vnot rfl) <| WL.nil <| WX.thenN <| ?_
  refine WC.ff rfl ?_
  refine WC.skip <| WX.thenN <| WC.seq <| WC.region <| sv (vmS rfl) <| clx (by repeat' (first | with_reducible exact Sb.all | exact Sb.nil | (apply Sb.cons; focus (first | ((repeat (first | with_reducible exact Tk.here | with_reducible apply Tk.there)); done) | ((repeat (first | exact Tk.here | apply Tk.there)); done))) | apply Sb.drop)) (v_clone (hR := ⟨RdC.of_rows (e := 5) (l := l.map Prod.snd) (by simp) (List.mem_map.2 ⟨x, List.mem_of_getElem? hj, rfl⟩)⟩) (by omega)) ct24 rfl fun r7 hr7 => ?_
  exact sv (vaS rfl) <| sv (vaI rfl) <| WL.nil <| WX.thenN <| WC.ret <| WX.ret2 rfl (r7) (hr7) rfl (fun w h => by have h2 := pv_mk (v := v) (j := j) (down := dn) hi (Own.sp4 (by repeat' (first | exact Spl.nil | (apply Spl.cons; focus (first | ((repeat (first | with_reducible exact Tk.here | with_reducible apply Tk.there)); done) | ((repeat (first | exact Tk.here | apply Tk.there)); done))))) h); exact Sb.own (by repeat' (first | with_reducible exact Sb.all | exact Sb.nil | (apply Sb.cons; focus (first | ((repeat (first | with_reducible exact Tk.here | with_reducible apply Tk.there)); done) | ((repeat (first | exact Tk.here | apply Tk.there)); done))) | apply Sb.drop)) h2)
end Go.Proofs.YthljpljbpbkkcaaDoor
