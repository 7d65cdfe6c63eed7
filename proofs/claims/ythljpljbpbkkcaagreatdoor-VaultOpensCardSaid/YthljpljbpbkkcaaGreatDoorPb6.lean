/-
  Texts one behind the other: VaultRefF, VaultRefG, VaultOpens, VaultLasts.
-/
import Derived.Test.YthljpljbpbkkcaaGreatDoorPb5
section
set_option linter.unusedVariables false
set_option linter.unusedSimpArgs false
set_option maxRecDepth 4000
namespace Go.Proofs.YthljpljbpbkkcaaGreatDoor
open Go.Sl Go.RowKit Go.Pack Go.Vault Go.Journal

def ofk (kind : Int) (k : PK) : PK := if kind = 1 then k else ⟨k.flow, k.num, 0, 0⟩
def ofb (kind : Int) (b : Sla UInt8) : Sla UInt8 := if kind = 1 then b else ⟨none, [], 0⟩
theorem ofk_ok {kind : Int} {k : PK} (h : PkOk k) : PkOk (ofk kind k) := by
  unfold ofk; split
  · exact h
  · exact ⟨h.flow, h.num, (show (-9223372036854775808 : Int) ≤ 0 ∧ (0 : Int) ≤ 9223372036854775807 by decide), (show (-9223372036854775808 : Int) ≤ 0 ∧ (0 : Int) ≤ 9223372036854775807 by decide)⟩
theorem ofk_flow {kind : Int} {k : PK} : (ofk kind k).flow = k.flow := by unfold ofk; split <;> rfl
theorem ofk_num {kind : Int} {k : PK} : (ofk kind k).num = k.num := by unfold ofk; split <;> rfl
theorem ofk_kind {kind : Int} {k : PK} {b : Sla UInt8} (h : kind = 1 ∨ kind = 2) : kind = 1 ∨ (kind = 2 ∧ (ofk kind k).kind = 0 ∧ (ofk kind k).n = 0 ∧ ofb kind b = ⟨none, [], 0⟩) := by
  rcases h with rfl | rfl
  · exact .inl rfl
  · exact .inr ⟨rfl, rfl, rfl, rfl⟩
theorem ofb_len {kind : Int} {b : Sla UInt8} {m : Nat} (h : b.xs.length ≤ m) : (ofb kind b).xs.length ≤ m := by unfold ofb; split; exact h; exact Nat.zero_le _
theorem ofb_rd {w0 : World} {A : List HProp} {kind : Int} {b : Sla UInt8} (h : RdC w0 A b.base (u8s b.xs)) : RdC w0 A (ofb kind b).base (u8s (ofb kind b).xs) := by unfold ofb; split; exact h; exact RdC.nil
def callL (kind : Int) (k : PK) (b : List UInt8) (d : VD) (s : JV) : (VD × JV) × Int := if kind = 2 then dropS k.flow k.num d s else putS k b d s
theorem callS_of {kind : Int} {k : PK} {b : Sla UInt8} {d : VD} {s : JV} (h : kind = 1 ∨ kind = 2) : callS kind (ofk kind k) (ofb kind b).xs d s = callL kind k b.xs d s := by
  rcases h with rfl | rfl
  · exact callS_put
  · exact callS_drop
theorem ofk_mk (kind n pk pn : Int) (f : ByteArray) : (⟨f, n, (ofk kind ⟨f, n, pk, pn⟩).kind, (ofk kind ⟨f, n, pk, pn⟩).n⟩ : PK) = ofk kind ⟨f, n, pk, pn⟩ := by unfold ofk; split <;> rfl
theorem law_of {w0 : World} {A : List HProp} {kind n q pk pn : Int} {f : ByteArray} {b : Sla UInt8} :
    Fun Tryz.prog w0 19 [.agg (vcel kind n q f pk pn b).toArray] A (Ret w0 (fun _ : Unit => True) (fun _ => .agg (vc6 kind f n (ofk kind ⟨f, n, pk, pn⟩).kind (ofk kind ⟨f, n, pk, pn⟩).n (ofb kind b)).toArray) (fun _ => A)) := by
  refine Fun.enter Tryz.func19 rfl Tryz.ntmps19 rfl ?_
  refine WC.seq <| WC.region <| bxc (v := .agg _) (cs := [.int _ _, .int _ _, .int _ _, .string _, .int _ _, .int _ _, .slice _ _ _]) rfl rfl fun b1 => alz (cs := [.int .i64 0, .string ByteArray.empty, .int .i64 0, .int .i64 0, .int .i64 0, .slice none 0 0]) zt57 (by rfl) fun b2 => WL.nil <| WX.thenN <| WC.seq <| WC.region <| sv (vfldpz fl48f0 rfl) <| sv (vldc pl3 rfl) <| sv (vfldp fl48f3 rfl) <| sv (vldc pl9 rfl) <| sv (vfldp fl48f1 rfl) <| sv (vldc pl3 rfl) <| sv (vbd (ps := [(0, .int _ _), (1, .string _), (2, .int _ _)]) (cs := [_, _, _, _, _, _]) bt57 zt57 rfl (by rfl)) <| alz (cs := [.int .i64 0, .string ByteArray.empty, .int .i64 0, .int .i64 0, .int .i64 0, .slice none 0 0]) zt57 (by rfl) fun b7 => stAp sz57 rfl rfl rfl (by intro v hv; simp only [List.mem_cons, List.not_mem_nil, or_false] at hv; rcases hv with rfl | rfl | rfl | rfl | rfl | rfl <;> rfl) rfl <| WL.nil <| WX.thenN <| WC.seq <| WC.seq <| WC.region <| sv (vfldpz fl48f0 rfl) <| sv (vldc pl3 rfl) <| sv (veq rfl rfl) <| WL.nil <| WX.thenN <| ?_
  refine WC.ite rfl (fun h1 => ?_) (fun h1 => ?_)
  · -- then
    have e1 : ofk kind ⟨f, n, pk, pn⟩ = ⟨f, n, pk, pn⟩ := if_pos h1
    have e2 : ofb kind b = b := if_pos h1
    rw [e1, e2]
    exact WC.seq <| WC.region <| sv (vfldp fl48f4 rfl) <| sv (vldap (i := 4) (cs := [.int .i64 pk, .int .i64 pn]) ag46 sz46 rfl rfl rfl (by decide)) <| sv (vfldp fl57f3 rfl) <| staq (cs := [.int .i64 pk, .int .i64 pn]) (vs' := vc6 kind f n pk pn ⟨none, [], 0⟩) sz46 rfl rfl rfl rfl (by simp) rfl <| WL.nil <| WX.thenN <| WC.region <| sv (vfldp fl48f5 rfl) <| sv (vldc pl23 rfl) <| sv (vfldp fl57f4 rfl) <| stp (v := .slice _ _ _) pl23 sz23 rfl rfl rfl <| WL.nil <| WX.thenN <| WC.seq <| WC.region <| sv (vldac ag57 sz57 rfl rfl (by decide)) <| stAp sz57 rfl rfl rfl (by intro v hv; simp only [List.mem_cons, List.not_mem_nil, or_false] at hv; rcases hv with rfl | rfl | rfl | rfl | rfl | rfl <;> rfl) rfl <| WL.nil <| WX.thenN <| WC.ret <| WX.ret1c rfl ag57 sz57 (()) (trivial) rfl rfl (by decide) rfl (fun _ h => Sb.own (by repeat' (first | with_reducible exact Sb.all | exact Sb.nil | (apply Sb.cons; focus (first | ((repeat (first | with_reducible exact Tk.here | with_reducible apply Tk.there)); done) | ((repeat (first | exact Tk.here | apply Tk.there)); done))) | apply Sb.drop)) h)
  · -- else
    have e1 : ofk kind ⟨f, n, pk, pn⟩ = ⟨f, n, 0, 0⟩ := if_neg h1
    have e2 : ofb kind b = ⟨none, [], 0⟩ := if_neg h1
    rw [e1, e2]
    exact WC.skip <| WX.thenN <| WC.seq <| WC.region <| sv (vldac ag57 sz57 rfl rfl (by decide)) <| stAp sz57 rfl rfl rfl (by intro v hv; simp only [List.mem_cons, List.not_mem_nil, or_false] at hv; rcases hv with rfl | rfl | rfl | rfl | rfl | rfl <;> rfl) rfl <| WL.nil <| WX.thenN <| WC.ret <| WX.ret1c rfl ag57 sz57 (()) (trivial) rfl rfl (by decide) rfl (fun _ h => Sb.own (by repeat' (first | with_reducible exact Sb.all | exact Sb.nil | (apply Sb.cons; focus (first | ((repeat (first | with_reducible exact Tk.here | with_reducible apply Tk.there)); done) | ((repeat (first | exact Tk.here | apply Tk.there)); done))) | apply Sb.drop)) h)
theorem v_put_gl {w0 : World} {A : List HProp} {v j dk c l : Nat} {d : VD} {s : JV} {k : PK} {base : Option Addr} {bs : List UInt8} [hR : Reads w0 A base (u8s bs)] (hl : l = bs.length) (hk : PkOk k) (hf : k.flow.size ≤ 4096) (hb : bs.length ≤ 4096) (hd : 0 ≤ s.st.deeds ∧ s.st.deeds + 2 ≤ 9223372036854775807) (hn : 0 ≤ s.n ∧ s.n + 1 ≤ 9223372036854775807) :
    Fun Tryz.prog w0 40 [.pointer (some ⟨v, 0, none⟩), .string k.flow, .int .i64 k.num, .agg #[.int .i64 k.kind, .int .i64 k.n], .slice base l c] (vall v j dk d s A) (Ret w0 (fun _ : Unit => True) (fun _ => .int .i64 (putS k bs d s).2) (fun _ => vall v j dk (putS k bs d s).1.1 (putS k bs d s).1.2 A)) := by subst hl; exact v_put hk hf hb hd hn
theorem law_callg {w0 : World} {A : List HProp} {v j dk : Nat} {kind n q pk pn : Int} {f : ByteArray} {b : Sla UInt8} {d : VD} {s : JV} (hk : PkOk ⟨f, n, pk, pn⟩) (hf : f.size ≤ 4096) (hb : b.xs.length ≤ 4096) (hd : 0 ≤ s.st.deeds ∧ s.st.deeds + 2 ≤ 9223372036854775807) (hn : 0 ≤ s.n ∧ s.n + 1 ≤ 9223372036854775807) (hR : RdC w0 A b.base (u8s b.xs)) :
    Fun Tryz.prog w0 16 [.pointer (some ⟨v, 0, none⟩), .agg (vcel kind n q f pk pn b).toArray] (vall v j dk d s A) (Ret w0 (fun _ : Unit => True) (fun _ => .int .i64 (callL kind ⟨f, n, pk, pn⟩ b.xs d s).2) (fun _ => vall v j dk (callL kind ⟨f, n, pk, pn⟩ b.xs d s).1.1 (callL kind ⟨f, n, pk, pn⟩ b.xs d s).1.2 A)) := by
  refine Fun.enter Tryz.func16 rfl Tryz.ntmps16 rfl ?_
  refine WC.seq <| WC.region <| bxc (v := .agg _) (cs := [.int _ _, .int _ _, .int _ _, .string _, .int _ _, .int _ _, .slice _ _ _]) rfl rfl fun b1 => sv (vaI rfl) <| WL.nil <| WX.thenN <| WC.seq <| WC.seq <| WC.region <| sv (vfldpz fl48f0 rfl) <| sv (vldc pl3 rfl) <| sv (veq rfl rfl) <| WL.nil <| WX.thenN <| ?_
  refine WC.ite rfl (fun h1 => ?_) (fun h1 => ?_)
  · -- then
    have e1 : callL kind ⟨f, n, pk, pn⟩ b.xs d s = dropS f n d s := if_pos h1
    rw [e1]
    refine WC.seq <| WC.region <| sv (vmP rfl) <| sv (vfldp fl48f3 rfl) <| sv (vldc pl9 rfl) <| sv (vfldp fl48f1 rfl) <| sv (vldc pl3 rfl) <| clx (by repeat' (first | with_reducible exact Sb.all | exact Sb.nil | (apply Sb.cons; focus (first | ((repeat (first | with_reducible exact Tk.here | with_reducible apply Tk.there)); done) | ((repeat (first | exact Tk.here | apply Tk.there)); done))) | apply Sb.drop)) (v_dropc (d := d) (s := s) hf hk.num hd hn) ct42 rfl fun r5 hr5 => ?_
    exact sv (vaI rfl) <| WL.nil <| WX.thenN <| WC.ret <| WX.thenR <| WX.ret1 rfl (()) (trivial) rfl (fun _ h => Sb.own (by repeat' (first | with_reducible exact Sb.all | exact Sb.nil | (apply Sb.cons; focus (first | ((repeat (first | with_reducible exact Tk.here | with_reducible apply Tk.there)); done) | ((repeat (first | exact Tk.here | apply Tk.there)); done))) | apply Sb.drop)) h)
  · -- else
    have e1 : callL kind ⟨f, n, pk, pn⟩ b.xs d s = putS ⟨f, n, pk, pn⟩ b.xs d s := if_neg h1
    rw [e1]
    obtain ⟨P, hP⟩ : ∃ P, P = putS ⟨f, n, pk, pn⟩ b.xs d s := ⟨_, rfl⟩
    rw [← hP]
    refine WC.skip <| WX.thenN <| WC.seq <| WC.region <| bsl0 Tryz.underlying23 zt5 fun b6 => sv (vfldp fl48f5 rfl) <| sv (vldc pl23 rfl) <| pm (fun _ h => (show Own w0 (row (some ⟨b6, 0, none⟩) 0 1 5 (u8s []) :: cel b1 (vcel kind n q f pk pn b) 48 :: vall v j dk d s A) _ from h)) <| apb Tryz.underlying23 zt5 rfl rfl rfl rfl (hR.mono fun _ h => h.tail.tail.tail.tail.tail) (by omega) fun base8 c8 hc8 =>sv (vaS rfl) <| WL.nil <| WX.thenN <| WC.seq <| WC.region <| sv (vmP rfl) <| sv (vfldp fl48f3 rfl) <| sv (vldc pl9 rfl) <| sv (vfldp fl48f1 rfl) <| sv (vldc pl3 rfl) <| sv (vfldp fl48f4 rfl) <| sv (vldap ag46 sz46 rfl (cs := [.int .i64 pk, .int .i64 pn]) rfl rfl (by decide)) <| sv (vmS rfl) <| clx (by repeat' (first | with_reducible exact Sb.all | exact Sb.nil | (apply Sb.cons; focus (first | ((repeat (first | with_reducible exact Tk.here | with_reducible apply Tk.there)); done) | ((repeat (first | exact Tk.here | apply Tk.there)); done))) | apply Sb.drop)) (v_put_gl (k := ⟨f, n, pk, pn⟩) (bs := b.xs) (d := d) (s := s) (by simp) hk hf hb hd hn) ct40 rfl fun r12 hr12 => ?_
    rw [← hP]
    refine sv (vaI rfl) <| WL.nil <| WX.thenN <| WC.seq <| WC.seq <| WC.region <| sv (vaI rfl) <| WL.nil <| WX.thenN <| WC.block <| ?_
    refine WC.loop (ι := Nat × List UInt8) (fun i => [(7, .int .i64 i.1)]) [(3, _), (5, .slice _ _ _), (6, .int _ _)] (fun i => row base8 c8 1 5 (u8s i.2) :: cel b1 (vcel kind n q f pk pn b) 48 :: vall v j dk P.1.1 P.1.2 A) (fun i => i.1 ≤ b.xs.length ∧ i.2.length = b.xs.length ∧ i.2.drop i.1 = b.xs.drop i.1) (fun i => b.xs.length - i.1) ((0, b.xs)) (⟨Nat.zero_le _, rfl, rfl⟩) ⟨rfl, trivial⟩ ⟨rfl, rfl, rfl, trivial⟩ (fun _ h => Sb.own (by repeat' (first | with_reducible exact Sb.all | exact Sb.nil | (apply Sb.cons; focus (first | ((repeat (first | with_reducible exact Tk.here | with_reducible apply Tk.there)); done) | ((repeat (first | exact Tk.here | apply Tk.there)); done))) | apply Sb.drop)) h) ?_
    rintro ⟨i, l⟩ ⟨hi1, hi2, hi3⟩ ρh
    dsimp only at hi1 hi2 hi3 ⊢
    refine WC.seq <| WC.seq <| WC.region <| sv (vmI rfl) <| sv (vmS rfl) <| sv (vlen Tryz.underlying23 rfl) <| sv (vlt rfl rfl) <| WL.nil <| WX.thenN <| ?_
    refine WC.ite rfl (fun h2 => ?_) (fun h2 => ?_)
    · -- then
      refine WC.skip <| WX.thenN <| WC.seq <| WC.block <| WC.seq <| WC.seq <| WC.draws rfl (by kernel_rfl) <| qv (vmS rfl) <| qv (vmI rfl) <| qv (vix1 Tryz.underlying23 sz5 rfl rfl (by omega) (by omega) (RdC.of_row (c := c8) (s := 1) (e := 5) (vs := u8s l) (by simp)) (by rw [u8s_len]; omega)) <| qv (vldo pl5 rfl (RdC.of_row (c := c8) (s := 1) (e := 5) (vs := u8s l) (by simp)) (u8s_getD (by omega))) <| qv (vfldp fl48f5 rfl) <| qv (vldc pl23 rfl) <| qv (vmI rfl) <| qv (vix1 Tryz.underlying23 sz5 rfl rfl (by omega) (by omega) (hR.mono fun _ h => h.tail.tail.tail.tail.tail) (by rw [u8s_len]; omega)) <| qv (vldo pl5 rfl (hR.mono fun _ h => h.tail.tail.tail.tail.tail) (u8s_getD (by omega))) <| qv (vne rfl rfl) <| WQ.nil <| WX.thenN <| ?_
      refine WC.ite rfl (fun h3 => ?_) (fun h3 => ?_)
      · -- then
        exact absurd (congrArg (fun c : UInt8 => (c.toNat : Int)) (drop_getD hi3)) h3
      · -- else
        exact WC.skip <| WX.thenN <| WC.region <| sv (vmS rfl) <| sv (vmI rfl) <| sv (vix1 Tryz.underlying23 sz5 rfl rfl (by omega) (by omega) (RdC.of_row (c := c8) (s := 1) (e := 5) (vs := u8s l) (by simp)) (by rw [u8s_len]; omega)) <| strp (v := .int .u8 55) pl5 sz5 rfl rfl rfl (by rw [u8s_len]; omega) <| WL.nil <| WX.blockN <| WX.thenN <| WC.region <| sv (vmI rfl) <| sv (vadd rfl rfl (by omega)) <| sv (vaI rfl) <| WL.nil <| WX.again ((i + 1, l.set i 55)) (⟨by omega, by rw [List.length_set]; exact hi2, by rw [List.drop_set_of_lt (by omega), ← List.drop_drop, hi3, List.drop_drop]⟩) (by omega) ⟨rfl, trivial⟩ ⟨rfl, rfl, rfl, trivial⟩ (fun w h => by rw [← u8s_set0]; exact Sb.own (by repeat' (first | with_reducible exact Sb.all | exact Sb.nil | (apply Sb.cons; focus (first | ((repeat (first | with_reducible exact Tk.here | with_reducible apply Tk.there)); done) | ((repeat (first | exact Tk.here | apply Tk.there)); done))) | apply Sb.drop)) h)
    · -- else
      exact WC.exit <| WX.thenE <| WX.thenE <| WX.blockH <| WX.thenN <| WC.seq <| WC.region <| sv (vmI rfl) <| sv (vaI rfl) <| WL.nil <| WX.thenN <| WC.ret <| WX.ret1 rfl (()) (trivial) rfl (fun _ h => Sb.own (by repeat' (first | with_reducible exact Sb.all | exact Sb.nil | (apply Sb.cons; focus (first | ((repeat (first | with_reducible exact Tk.here | with_reducible apply Tk.there)); done) | ((repeat (first | exact Tk.here | apply Tk.there)); done))) | apply Sb.drop)) h)
structure GtI where
  base : Option Addr
  cap : Nat
  xs : List UInt8
  e : Int
structure GtR (d : VD) (k : PK) (i : GtI) : Prop where
  len : i.xs.length ≤ i.cap
  ok : (i.e = 0 ∧ d.parts k = some i.xs) ∨ (i.e = 6 ∧ i.xs = [] ∧ d.parts k = none)
theorem v_get_any {w0 : World} {A : List HProp} {v j : Nat} {dn : Bool} {d : VD} {f : ByteArray} {n pk pn : Int} (hk : PkOk ⟨f, n, pk, pn⟩) : Fun Tryz.prog w0 41 [.pointer (some ⟨v, 0, none⟩), .string f, .int .i64 n, .agg #[.int .i64 pk, .int .i64 pn]] (pv v j dn d :: A) (Ret w0 (GtR d ⟨f, n, pk, pn⟩) (fun i => .tuple #[.slice i.base i.xs.length i.cap, .int .i64 i.e]) (fun i => row i.base i.cap 1 5 (u8s i.xs) :: pv v j dn d :: A)) := by
  cases h : d.parts ⟨f, n, pk, pn⟩ with
  | none => exact (v_get_none hk h).mono fun e w ⟨i, _, he, hO⟩ => ⟨⟨none, 0, [], 6⟩, ⟨Nat.le_refl _, .inr ⟨rfl, rfl, h⟩⟩, he, hO.intro_row_nil⟩
  | some b => exact (v_get_some hk h).mono fun e w ⟨i, h1, he, hO⟩ => ⟨⟨i.1, i.2, b, 0⟩, ⟨h1, .inl ⟨rfl, h⟩⟩, he, hO⟩
theorem findR_none {l : List (PK × Sla UInt8)} {fl : List (ByteArray × Int)} {lb fb : Option Addr} {lc fc N : Nat} {d : VD} {k : PK} {v : Int} (hi : RVR N d ⟨l, fl, lb, lc, fb, fc⟩) (h : FindR l k v) (hv : v < 0) : d.parts k = none := by
  have := (h.neg hi.nd).1 hv
  rwa [hi.look] at this
theorem findR_some {l : List (PK × Sla UInt8)} {fl : List (ByteArray × Int)} {lb fb : Option Addr} {lc fc N : Nat} {d : VD} {k : PK} {v : Int} (hi : RVR N d ⟨l, fl, lb, lc, fb, fc⟩) (h : FindR l k v) (hv : ¬ v < 0) : ∃ (j : Nat) (x : PK × Sla UInt8), v = (j : Int) ∧ l[j]? = some x ∧ d.parts k = some x.2.xs := by
  rcases h with ⟨rfl, _⟩ | ⟨j, x, rfl, hj, rfl⟩
  · exact absurd (by decide) hv
  · refine ⟨j, x, rfl, hj, ?_⟩
    have := lookP_mem hi.nd (List.mem_of_getElem? hj)
    rwa [hi.look] at this
theorem u8s_setA {l : List UInt8} {j : Nat} {c : UInt8} : (u8s l).set j (u8v c) = u8s (l.set j c) := by simp [u8s]
theorem law_ask {w0 : World} {A : List HProp} {v j r w N lc fc : Nat} {lb fb : Option Addr} {l : List (PK × Sla UInt8)} {fl : List (ByteArray × Int)} {dn : Bool} {dv dr : VD} {kind n q pk pn : Int} {f : ByteArray} {b : Sla UInt8} (hk : PkOk ⟨f, n, pk, pn⟩) (hcv : Cnt dv) (hi : RVR N dr ⟨l, fl, lb, lc, fb, fc⟩) (hN : N ≤ 134217728) [hc : CelAt A r [.slice lb l.length lc, .slice fb fl.length fc, .pointer (some ⟨w, 0, none⟩)] 53] [hR1 : Reads w0 A lb (fla callC l)] (hB : ∀ x ∈ l, RdC w0 A x.2.base (u8s x.2.xs)) :
    Fun Tryz.prog w0 26 [.pointer (some ⟨v, 0, none⟩), .pointer (some ⟨r, 0, none⟩), .agg (vcel kind n q f pk pn b).toArray] (pv v j dn dv :: A) (Ret w0 (fun b : Bool => dv = dr → b = true) (fun b => .bool b) (fun _ => pv v j dn dv :: A)) := by
  have hlen := hi.len
  have hcl := fla_length (f := callC) (l := l) callC_len
  dsimp only at hlen
  refine Fun.enter Tryz.func26 rfl Tryz.ntmps26 rfl ?_
  refine WC.seq <| WC.region <| bxc (v := .agg _) (cs := [.int _ _, .int _ _, .int _ _, .string _, .int _ _, .int _ _, .slice _ _ _]) rfl rfl fun b1 => sv (vaB rfl) <| WL.nil <| WX.thenN <| WC.seq <| WC.seq <| WC.region <| sv (vfldpz fl48f0 rfl) <| sv (vldc pl3 rfl) <| WL.nil <| WX.thenN <| WC.block <| WC.seq <| WC.region <| sv (veq rfl rfl) <| sv (vaB rfl) <| WL.nil <| WX.thenN <| ?_
  refine WC.ite rfl (fun h1 => ?_) (fun h1 => ?_)
  · -- then
    refine WC.seq <| WC.region <| sv (vmP rfl) <| sv (vfldp fl48f3 rfl) <| sv (vldc pl9 rfl) <| sv (vfldp fl48f1 rfl) <| sv (vldc pl3 rfl) <| sv (vfldp fl48f4 rfl) <| sv (vldap (i := 4) (cs := [.int .i64 pk, .int .i64 pn]) ag46 sz46 rfl rfl rfl (by decide)) <| clx (by repeat' (first | with_reducible exact Sb.all | exact Sb.nil | (apply Sb.cons; focus (first | ((repeat (first | with_reducible exact Tk.here | with_reducible apply Tk.there)); done) | ((repeat (first | exact Tk.here | apply Tk.there)); done))) | apply Sb.drop)) (v_get_any hk) ct41 rfl fun r6 hr6 => ?_
    obtain ⟨gb, gc, gx, ge⟩ := r6
    obtain ⟨hg1, hg2⟩ := hr6
    dsimp only at hg1 hg2 ⊢
    refine sv vmv <| sv (vex rfl rfl) <| sv (vex rfl rfl) <| sv (vaS rfl) <| sv (vaI rfl) <| WL.nil <| WX.thenN <| WC.seq <| WC.region <| sv (vmP rfl) <| sv (vfldp fl48f3 rfl) <| sv (vldc pl9 rfl) <| sv (vfldp fl48f1 rfl) <| sv (vldc pl3 rfl) <| sv (vfldp fl48f4 rfl) <| sv (vldap (i := 4) (cs := [.int .i64 pk, .int .i64 pn]) ag46 sz46 rfl rfl rfl (by decide)) <| clx (by repeat' (first | with_reducible exact Sb.all | exact Sb.nil | (apply Sb.cons; focus (first | ((repeat (first | with_reducible exact Tk.here | with_reducible apply Tk.there)); done) | ((repeat (first | exact Tk.here | apply Tk.there)); done))) | apply Sb.drop)) (ref_find16 (l := l) (by omega)) ct47 rfl fun r10 hr10 => ?_
    refine sv (vaI rfl) <| WL.nil <| WX.thenN <| WC.seq <| WC.seq <| WC.region <| sv (vmI rfl) <| sv (vlt rfl rfl) <| WL.nil <| WX.thenN <| ?_
    refine WC.ite rfl (fun h2 => ?_) (fun h2 => ?_)
    · -- then
      have hno := findR_none hi hr10 h2
      refine WC.cutS [(6, .bool (decide (ge = 6 ∧ gx.length = 0)))] [] trivial ?_ fun ρh => ?_
      · -- law.go:58
        refine WC.region <| sv (vmI rfl) <| svs (veq rfl rfl) (fun q1 => ?_) (fun q1 => ?_)
        ·
          exact sv (vmB rfl) <| svg rfl (vmS rfl) <| svg rfl (vlen Tryz.underlying23 rfl) <| svg rfl (veq rfl rfl) <| sv (vpkt rfl) <| sv (vaB rfl) <| WL.nil <| WX.mid () trivial ⟨bI (by omega), trivial⟩ trivial (fun _ h => Sb.own (by repeat' (first | with_reducible exact Sb.all | exact Sb.nil | (apply Sb.cons; focus (first | ((repeat (first | with_reducible exact Tk.here | with_reducible apply Tk.there)); done) | ((repeat (first | exact Tk.here | apply Tk.there)); done))) | apply Sb.drop)) h)
        ·
          exact sv (vmB rfl) <| sng rfl <| sng rfl <| sng rfl <| sv (vpkf rfl) <| sv (vaB rfl) <| WL.nil <| WX.mid () trivial ⟨bF (by omega), trivial⟩ trivial (fun _ h => Sb.own (by repeat' (first | with_reducible exact Sb.all | exact Sb.nil | (apply Sb.cons; focus (first | ((repeat (first | with_reducible exact Tk.here | with_reducible apply Tk.there)); done) | ((repeat (first | exact Tk.here | apply Tk.there)); done))) | apply Sb.drop)) h)
      exact WC.ret <| WX.thenR <| WX.blockR <| WX.thenR <| WX.ret1 rfl (decide (ge = 6 ∧ gx.length = 0)) (fun hd => decide_eq_true (by rw [hd] at hg2; rcases hg2 with ⟨_, h⟩ | ⟨h1, h2, _⟩; rw [hno] at h; cases h; exact ⟨h1, by rw [h2]; rfl⟩)) rfl (fun _ h => Sb.own (by repeat' (first | with_reducible exact Sb.all | exact Sb.nil | (apply Sb.cons; focus (first | ((repeat (first | with_reducible exact Tk.here | with_reducible apply Tk.there)); done) | ((repeat (first | exact Tk.here | apply Tk.there)); done))) | apply Sb.drop)) h)
    · -- else
      obtain ⟨at_, x, rfl, hat, hpx⟩ := findR_some hi hr10 h2
      have hatl := (List.getElem?_eq_some_iff.1 hat).1
      have hpos : 0 < (fla callC l).length := by omega
      refine WC.known (fun w h => rsomeV (base := lb) hpos hR1.rd (Sb.own (B := A) (by repeat' (first | with_reducible exact Sb.all | exact Sb.nil | (apply Sb.cons; focus (first | ((repeat (first | with_reducible exact Tk.here | with_reducible apply Tk.there)); done) | ((repeat (first | exact Tk.here | apply Tk.there)); done))) | apply Sb.drop)) h)) fun hb => ?_
      have hf4 := fla6 callC_len hat 5 (by omega)
      have hBx := hB x (List.mem_of_getElem? hat)
      refine WC.skip <| WX.thenN <| WC.seq <| ?_
      refine WC.cutS [(61, .bool (decide (¬ (ge = 0 ∧ gx = x.2.xs))))] [(7, .slice _ _ _)] ⟨rfl, trivial⟩ ?_ fun ρh => ?_
      · -- law.go:60
        refine WC.draws rfl (by kernel_rfl) <| qv (vmI rfl) <| qvs (vne rfl rfl) (fun q2 => ?_) (fun q2 => ?_)
        ·
          exact qv (vmB rfl) <| qng rfl <| qng rfl <| qng rfl <| qng rfl <| qng rfl <| qng rfl <| qng rfl <| qng rfl <| qng rfl <| qng rfl <| qng rfl <| qng rfl <| qv (vpkt rfl) <| WQ.nil <| WX.mid () trivial ⟨bT (fun h => q2 h.1), trivial⟩ ⟨rfl, trivial⟩ (fun _ h => Sb.own (by repeat' (first | with_reducible exact Sb.all | exact Sb.nil | (apply Sb.cons; focus (first | ((repeat (first | with_reducible exact Tk.here | with_reducible apply Tk.there)); done) | ((repeat (first | exact Tk.here | apply Tk.there)); done))) | apply Sb.drop)) h)
        ·
          exact qv (vmB rfl) <| qvg rfl (vmS rfl) <| qvg rfl (vstr (bs := gx) Tryz.underlying23 Tryz.underlying5 Tryz.underlying9 rfl (RdC.of_row (c := gc) (s := 1) (e := 5) (by simp)) rfl) <| qvg rfl (vmP rfl) <| qvg rfl (vnil rfl) <| qvg rfl (vfldpz fl53f0 rfl) <| qvg rfl (vldc pl50 rfl) <| qvg rfl (vmI rfl) <| qvg rfl (vix Tryz.underlying50 sz57 rfl rfl (by omega) (by omega) reads (hpos)) <| qvg rfl (vfldr (hb) fl57f4 rfl) <| qvg rfl (vldo pl23 rfl (hR1.rd.mono fun _ h => Sb.own (by repeat' (first | with_reducible exact Sb.all | exact Sb.nil | (apply Sb.cons; focus (first | ((repeat (first | with_reducible exact Tk.here | with_reducible apply Tk.there)); done) | ((repeat (first | exact Tk.here | apply Tk.there)); done))) | apply Sb.drop)) h) hf4) <| qvg rfl (vstr (bs := x.2.xs) Tryz.underlying23 Tryz.underlying5 Tryz.underlying9 rfl (hBx.mono fun _ h => Sb.own (by repeat' (first | with_reducible exact Sb.all | exact Sb.nil | (apply Sb.cons; focus (first | ((repeat (first | with_reducible exact Tk.here | with_reducible apply Tk.there)); done) | ((repeat (first | exact Tk.here | apply Tk.there)); done))) | apply Sb.drop)) h) rfl) <| qvg rfl (vnes rfl rfl) <| qv (vpkf rfl) <| WQ.nil <| WX.mid () trivial ⟨bI (by have h0 : ge = 0 := Decidable.not_not.1 q2; simp [h0]), trivial⟩ ⟨rfl, trivial⟩ (fun _ h => Sb.own (by repeat' (first | with_reducible exact Sb.all | exact Sb.nil | (apply Sb.cons; focus (first | ((repeat (first | with_reducible exact Tk.here | with_reducible apply Tk.there)); done) | ((repeat (first | exact Tk.here | apply Tk.there)); done))) | apply Sb.drop)) h)
      refine WC.ite rfl (fun h3 => ?_) (fun h3 => ?_)
      · -- then
        exact WC.seq <| WC.region <| sv (vaB rfl) <| WL.nil <| WX.thenN <| WC.ret <| WX.thenR <| WX.blockR <| WX.thenR <| WX.ret1 rfl (false) (fun hd => by rw [hd] at hg2; rcases hg2 with ⟨h1, h⟩ | ⟨_, _, h⟩; rw [hpx] at h; cases h; exact absurd ⟨h1, rfl⟩ h3; rw [hpx] at h; cases h) rfl (fun _ h => Sb.own (by repeat' (first | with_reducible exact Sb.all | exact Sb.nil | (apply Sb.cons; focus (first | ((repeat (first | with_reducible exact Tk.here | with_reducible apply Tk.there)); done) | ((repeat (first | exact Tk.here | apply Tk.there)); done))) | apply Sb.drop)) h)
      · -- else
        refine WC.known (fun w h => (row_le (Sb.own (B := [row gb gc 1 5 (u8s gx)]) (by repeat' (first | with_reducible exact Sb.all | exact Sb.nil | (apply Sb.cons; focus (first | ((repeat (first | with_reducible exact Tk.here | with_reducible apply Tk.there)); done) | ((repeat (first | exact Tk.here | apply Tk.there)); done))) | apply Sb.drop)) h)).2) fun hgc => ?_
        simp only [maxLen] at hgc
        refine WC.skip <| WX.thenN <| WC.seq <| WC.region <| sv (vaI rfl) <| WL.nil <| WX.thenN <| WC.block <| ?_
        refine WC.loop (ι := Nat × List UInt8) (fun i => [(10, .int .i64 i.1)]) [(7, .slice _ _ _)] (fun i => row gb gc 1 5 (u8s i.2) :: pv v j dn dv :: A) (fun i => i.1 ≤ gx.length ∧ i.2.length = gx.length) (fun i => gx.length - i.1) ((0, gx)) (⟨Nat.zero_le _, rfl⟩) ⟨rfl, trivial⟩ ⟨rfl, trivial⟩ (fun _ h => Sb.own (by repeat' (first | with_reducible exact Sb.all | exact Sb.nil | (apply Sb.cons; focus (first | ((repeat (first | with_reducible exact Tk.here | with_reducible apply Tk.there)); done) | ((repeat (first | exact Tk.here | apply Tk.there)); done))) | apply Sb.drop)) h) ?_
        rintro ⟨i, g⟩ ⟨hi1, hi2⟩ ρh
        dsimp only at hi1 hi2 ⊢
        refine WC.seq <| WC.seq <| WC.region <| sv (vmI rfl) <| sv (vmS rfl) <| sv (vlen Tryz.underlying23 rfl) <| sv (vlt rfl rfl) <| WL.nil <| WX.thenN <| ?_
        refine WC.ite rfl (fun h4 => ?_) (fun h4 => ?_)
        · -- then
          exact WC.skip <| WX.thenN <| WC.seq <| WC.block <| WC.region <| sv (vmS rfl) <| sv (vmI rfl) <| sv (vix1 Tryz.underlying23 sz5 rfl rfl (by omega) (by omega) (RdC.of_row (c := gc) (s := 1) (e := 5) (vs := u8s g) (by simp)) (by rw [u8s_len]; omega)) <| strp (v := .int .u8 66) pl5 sz5 rfl rfl rfl (by rw [u8s_len]; omega) <| WL.nil <| WX.blockN <| WX.thenN <| WC.region <| sv (vmI rfl) <| sv (vadd rfl rfl (by omega)) <| sv (vaI rfl) <| WL.nil <| WX.again ((i + 1, g.set i 66)) (⟨by omega, by rw [List.length_set]; exact hi2⟩) (by omega) ⟨rfl, trivial⟩ ⟨rfl, trivial⟩ (fun w h => by rw [← u8s_setA]; exact Sb.own (by repeat' (first | with_reducible exact Sb.all | exact Sb.nil | (apply Sb.cons; focus (first | ((repeat (first | with_reducible exact Tk.here | with_reducible apply Tk.there)); done) | ((repeat (first | exact Tk.here | apply Tk.there)); done))) | apply Sb.drop)) h)
        · -- else
          exact WC.exit <| WX.thenE <| WX.thenE <| WX.blockH <| WX.blockN <| WX.thenN <| WC.seq <| WC.region <| sv (vaB rfl) <| WL.nil <| WX.thenN <| WC.ret <| WX.ret1 rfl (true) (fun _ => rfl) rfl (fun _ h => Sb.own (by repeat' (first | with_reducible exact Sb.all | exact Sb.nil | (apply Sb.cons; focus (first | ((repeat (first | with_reducible exact Tk.here | with_reducible apply Tk.there)); done) | ((repeat (first | exact Tk.here | apply Tk.there)); done))) | apply Sb.drop)) h)
  · -- else
    refine WC.seq <| WC.region <| sv (veq rfl rfl) <| sv (vaB rfl) <| WL.nil <| WX.thenN <| ?_
    refine WC.ite rfl (fun h5 => ?_) (fun h5 => ?_)
    · -- then
      exact WC.seq <| WC.draws rfl (by kernel_rfl) <| qv (vmP rfl) <| qv (vfldp fl48f3 rfl) <| qv (vldc pl9 rfl) <| qv (vfldp fl48f1 rfl) <| qv (vldc pl3 rfl) <| qv (vfldp fl48f2 rfl) <| qv (vldc pl3 rfl) <| qcl (Quiet.spl (X := [pv v j dn dv]) (by repeat' (first | exact Spl.nil | (apply Spl.cons; focus (first | ((repeat (first | with_reducible exact Tk.here | with_reducible apply Tk.there)); done) | ((repeat (first | exact Tk.here | apply Tk.there)); done))))) (v_whole hk.flow hk.num)) ct50 rfl <| qv (vmP rfl) <| qv (vfldp fl48f3 rfl) <| qv (vldc pl9 rfl) <| qv (vfldp fl48f1 rfl) <| qv (vldc pl3 rfl) <| qv (vfldp fl48f2 rfl) <| qv (vldc pl3 rfl) <| qcl (Fun.quiet (ref_whole hi hN)) ct51 rfl <| qv (veqb Tryz.underlying4 rfl rfl) <| qv (vaB rfl) <| WQ.nil <| WX.thenN <| WC.ret <| WX.blockR <| WX.thenR <| WX.ret1 rfl (decide (wholeP dv f n q = wholeP dr f n q)) (fun hd => decide_eq_true (by rw [hd])) rfl (fun _ h => Sb.own (by repeat' (first | with_reducible exact Sb.all | exact Sb.nil | (apply Sb.cons; focus (first | ((repeat (first | with_reducible exact Tk.here | with_reducible apply Tk.there)); done) | ((repeat (first | exact Tk.here | apply Tk.there)); done))) | apply Sb.drop)) h)
    · -- else
      refine WC.seq <| WC.region <| sv (veq rfl rfl) <| sv (vaB rfl) <| WL.nil <| WX.thenN <| ?_
      refine WC.ite rfl (fun h6 => ?_) (fun h6 => ?_)
      · -- then
        refine WC.seq <| WC.region <| sv (vmP rfl) <| sv (vfldp fl48f3 rfl) <| sv (vldc pl9 rfl) <| clx (by repeat' (first | with_reducible exact Sb.all | exact Sb.nil | (apply Sb.cons; focus (first | ((repeat (first | with_reducible exact Tk.here | with_reducible apply Tk.there)); done) | ((repeat (first | exact Tk.here | apply Tk.there)); done))) | apply Sb.drop)) (v_numbers hcv) ct52 rfl fun r28 hr28 => ?_
        obtain ⟨ob, oc, ox⟩ := r28
        obtain ⟨ho1, ho2⟩ := hr28
        dsimp only at ho1 ho2 ⊢
        refine sv (vaS rfl) <| WL.nil <| WX.thenN <| WC.seq <| WC.region <| sv (vmP rfl) <| sv (vfldp fl48f3 rfl) <| sv (vldc pl9 rfl) <| clx (by repeat' (first | with_reducible exact Sb.all | exact Sb.nil | (apply Sb.cons; focus (first | ((repeat (first | with_reducible exact Tk.here | with_reducible apply Tk.there)); done) | ((repeat (first | exact Tk.here | apply Tk.there)); done))) | apply Sb.drop)) (ref_numbers hi hN) ct53 rfl fun r30 hr30 => ?_
        obtain ⟨mb, mc, mx⟩ := r30
        obtain ⟨hm1, hm2, hm3⟩ := hr30
        dsimp only at hm1 hm2 hm3 ⊢
        refine sv (vaS rfl) <| WL.nil <| WX.thenN <| WC.seq <| WC.seq <| WC.region <| sv (vmS rfl) <| sv (vlen Tryz.underlying105 rfl) <| sv (vmS rfl) <| sv (vlen Tryz.underlying105 rfl) <| sv (vne rfl rfl) <| WL.nil <| WX.thenN <| ?_
        refine WC.ite rfl (fun h7 => ?_) (fun h7 => ?_)
        · -- then
          exact WC.seq <| WC.region <| sv (vaB rfl) <| WL.nil <| WX.thenN <| WC.ret <| WX.thenR <| WX.blockR <| WX.thenR <| WX.ret1 rfl (false) (fun hd => by rw [hd] at ho1; rw [ho1.uniq hm1] at h7; exact absurd rfl h7) rfl (fun _ h => Sb.own (by repeat' (first | with_reducible exact Sb.all | exact Sb.nil | (apply Sb.cons; focus (first | ((repeat (first | with_reducible exact Tk.here | with_reducible apply Tk.there)); done) | ((repeat (first | exact Tk.here | apply Tk.there)); done))) | apply Sb.drop)) h)
        · -- else
          have hll : ox.length = mx.length := by omega
          refine WC.skip <| WX.thenN <| WC.seq <| WC.region <| sv (vaI rfl) <| WL.nil <| WX.thenN <| WC.block <| ?_
          refine WC.loopS (ι := Nat) (fun i => [(13, .int .i64 i)]) [(11, .slice _ _ _), (12, .slice _ _ _)] (fun i => i ≤ ox.length) (fun i => ox.length - i) (0) (by omega) ⟨rfl, trivial⟩ ⟨rfl, rfl, trivial⟩ ?_
          intro i hi ρh
          refine WC.seq <| WC.seq <| WC.region <| sv (vmI rfl) <| sv (vmS rfl) <| sv (vlen Tryz.underlying105 rfl) <| sv (vlt rfl rfl) <| WL.nil <| WX.thenN <| ?_
          refine WC.ite rfl (fun h8 => ?_) (fun h8 => ?_)
          · -- then
            refine WC.skip <| WX.thenN <| WC.seq <| WC.block <| WC.seq <| WC.draws rfl (by kernel_rfl) <| qv (vmS rfl) <| qv (vmI rfl) <| qv (vix1 Tryz.underlying105 sz3 rfl rfl (by omega) (by omega) (RdC.of_row (c := oc) (s := 1) (e := 3) (vs := i64s ox) (by simp)) (by rw [i64s_length]; omega)) <| qv (vldo pl3 rfl (RdC.of_row (c := oc) (s := 1) (e := 3) (vs := i64s ox) (by simp)) (i64s_getN (by omega))) <| qv (vmS rfl) <| qv (vmI rfl) <| qv (vix1 Tryz.underlying105 sz3 rfl rfl (by omega) (by omega) (RdC.of_row (c := mc) (s := 1) (e := 3) (vs := i64s mx) (by simp)) (by rw [i64s_length]; omega)) <| qv (vldo pl3 rfl (RdC.of_row (c := mc) (s := 1) (e := 3) (vs := i64s mx) (by simp)) (i64s_getN (by omega))) <| qv (vne rfl rfl) <| WQ.nil <| WX.thenN <| ?_
            refine WC.ite rfl (fun h9 => ?_) (fun h9 => ?_)
            · -- then
              exact WC.seq <| WC.region <| sv (vaB rfl) <| WL.nil <| WX.thenN <| WC.ret <| WX.blockR <| WX.thenR <| WX.thenR <| WX.blockR <| WX.blockR <| WX.thenR <| WX.ret1 rfl (false) (fun hd => by rw [hd] at ho1; rw [ho1.uniq hm1] at h9; exact absurd rfl h9) rfl (fun _ h => Sb.own (by repeat' (first | with_reducible exact Sb.all | exact Sb.nil | (apply Sb.cons; focus (first | ((repeat (first | with_reducible exact Tk.here | with_reducible apply Tk.there)); done) | ((repeat (first | exact Tk.here | apply Tk.there)); done))) | apply Sb.drop)) h)
            · -- else
              exact WC.skip <| WX.blockN <| WX.thenN <| WC.region <| sv (vmI rfl) <| sv (vadd rfl rfl (by omega)) <| sv (vaI rfl) <| WL.nil <| WX.again (i + 1) (by omega) (by omega) ⟨rfl, trivial⟩ ⟨rfl, rfl, trivial⟩ (fun _ h => Sb.own (by repeat' (first | with_reducible exact Sb.all | exact Sb.nil | (apply Sb.cons; focus (first | ((repeat (first | with_reducible exact Tk.here | with_reducible apply Tk.there)); done) | ((repeat (first | exact Tk.here | apply Tk.there)); done))) | apply Sb.drop)) h)
          · -- else
            exact WC.exit <| WX.thenE <| WX.thenE <| WX.blockH <| WX.blockN <| WX.thenN <| WC.seq <| WC.region <| sv (vaB rfl) <| WL.nil <| WX.thenN <| WC.ret <| WX.ret1 rfl (true) (fun _ => rfl) rfl (fun _ h => Sb.own (by repeat' (first | with_reducible exact Sb.all | exact Sb.nil | (apply Sb.cons; focus (first | ((repeat (first | with_reducible exact Tk.here | with_reducible apply Tk.there)); done) | ((repeat (first | exact Tk.here | apply Tk.there)); done))) | apply Sb.drop)) h)
      · -- else
        exact WC.skip <| WX.blockN <| WX.thenN <| WC.seq <| WC.region <| sv (vaB rfl) <| WL.nil <| WX.thenN <| WC.ret <| WX.ret1 rfl (true) (fun _ => rfl) rfl (fun _ h => Sb.own (by repeat' (first | with_reducible exact Sb.all | exact Sb.nil | (apply Sb.cons; focus (first | ((repeat (first | with_reducible exact Tk.here | with_reducible apply Tk.there)); done) | ((repeat (first | exact Tk.here | apply Tk.there)); done))) | apply Sb.drop)) h)
theorem law_there {w0 : World} {A : List HProp} {v j : Nat} {dn : Bool} {d : VD} {kind n q pk pn : Int} {f : ByteArray} {b : Sla UInt8} (hk : PkOk ⟨f, n, pk, pn⟩) :
    Fun Tryz.prog w0 20 [.pointer (some ⟨v, 0, none⟩), .agg (vcel kind n q f pk pn b).toArray] (pv v j dn d :: A) (Ret w0 (fun _ : Unit => True) (fun _ => .bool (d.parts ⟨f, n, pk, pn⟩).isSome) (fun _ => pv v j dn d :: A)) := by
  refine Fun.enter Tryz.func20 rfl Tryz.ntmps20 rfl ?_
  refine WC.seq <| WC.region <| bxc (v := .agg _) (cs := [.int _ _, .int _ _, .int _ _, .string _, .int _ _, .int _ _, .slice _ _ _]) rfl rfl fun b1 => sv (vaB rfl) <| WL.nil <| WX.thenN <| WC.seq <| WC.region <| sv (vmP rfl) <| sv (vfldp fl48f3 rfl) <| sv (vldc pl9 rfl) <| sv (vfldp fl48f1 rfl) <| sv (vldc pl3 rfl) <| sv (vfldp fl48f4 rfl) <| sv (vldap (i := 4) (cs := [.int .i64 pk, .int .i64 pn]) ag46 sz46 rfl rfl rfl (by decide)) <| clx (by repeat' (first | with_reducible exact Sb.all | exact Sb.nil | (apply Sb.cons; focus (first | ((repeat (first | with_reducible exact Tk.here | with_reducible apply Tk.there)); done) | ((repeat (first | exact Tk.here | apply Tk.there)); done))) | apply Sb.drop)) (v_get_any hk) ct41 rfl fun r5 hr5 => ?_
  obtain ⟨gb, gc, gx, ge⟩ := r5
  obtain ⟨hg1, hg2⟩ := hr5
  dsimp only at hg1 hg2 ⊢
  exact sv vmv <| sv (vex rfl rfl) <| sv (vex rfl rfl) <| sv (vaS rfl) <| sv (vaI rfl) <| WL.nil <| WX.thenN <| WC.seq <| WC.region <| sv (vmI rfl) <| sv (veq rfl rfl) <| sv (vaB rfl) <| WL.nil <| WX.thenN <| WC.ret <| WX.ret1 rfl (()) (trivial) (show Value.bool (decide (ge = 0)) = _ from by congr 1; rcases hg2 with ⟨h1, h⟩ | ⟨h1, _, h⟩; rw [h, h1]; rfl; rw [h, h1]; rfl) (fun _ h => Sb.own (by repeat' (first | with_reducible exact Sb.all | exact Sb.nil | (apply Sb.cons; focus (first | ((repeat (first | with_reducible exact Tk.here | with_reducible apply Tk.there)); done) | ((repeat (first | exact Tk.here | apply Tk.there)); done))) | apply Sb.drop)) h)
end Go.Proofs.YthljpljbpbkkcaaGreatDoor
end
section
set_option linter.unusedVariables false
set_option linter.unusedSimpArgs false
set_option maxRecDepth 4000
namespace Go.Proofs.YthljpljbpbkkcaaGreatDoor
open Go.Sl Go.RowKit Go.Pack Go.Vault Go.Journal

theorem fl_ok {f : ByteArray} (h : f.size ≤ 140737488351232) : PkOk ⟨f, 0, 0, 0⟩ :=
  ⟨h, (show (-9223372036854775808 : Int) ≤ 0 ∧ (0 : Int) ≤ 9223372036854775807 by decide), (show (-9223372036854775808 : Int) ≤ 0 ∧ (0 : Int) ≤ 9223372036854775807 by decide), (show (-9223372036854775808 : Int) ≤ 0 ∧ (0 : Int) ≤ 9223372036854775807 by decide)⟩
theorem law_is {w0 : World} {A : List HProp} {v j r w N lc fc : Nat} {lb fb : Option Addr} {l : List (PK × Sla UInt8)} {fl : List (ByteArray × Int)} {dn : Bool} {dv dr : VD} (hcv : Cnt dv) (hi : RVR N dr ⟨l, fl, lb, lc, fb, fc⟩) (hN : N ≤ 134217728) [hc : CelAt A r [.slice lb l.length lc, .slice fb fl.length fc, .pointer (some ⟨w, 0, none⟩)] 53] [hR1 : Reads w0 A lb (fla callC l)] [hR2 : Reads w0 A fb (fla flC fl)] (hB : ∀ x ∈ l, RdC w0 A x.2.base (u8s x.2.xs)) :
    Fun Tryz.prog w0 13 [.pointer (some ⟨v, 0, none⟩), .pointer (some ⟨r, 0, none⟩)] (pv v j dn dv :: A) (Ret w0 (fun b : Bool => dv = dr → b = true) (fun b => .bool b) (fun _ => pv v j dn dv :: A)) := by
  have hlen := hi.len
  have hcl := fla_length (f := callC) (l := l) callC_len
  have hfl := fla_length (f := flC) (l := fl) flC_len
  dsimp only at hlen
  refine Fun.enter Tryz.func13 rfl Tryz.ntmps13 rfl ?_
  refine WC.seq <| WC.region <| sv (vaB rfl) <| WL.nil <| WX.thenN <| WC.seq <| WC.seq <| WC.region <| sv (vaI rfl) <| WL.nil <| WX.thenN <| WC.block <| ?_
  refine WC.loopS (ι := Nat) (fun i => [(5, .int .i64 i)]) [(0, .pointer _), (1, .pointer _)] (fun i => i ≤ l.length) (fun i => l.length - i) (0) (by omega) ⟨rfl, trivial⟩ ⟨rfl, rfl, trivial⟩ ?_
  intro i hii ρh
  refine WC.seq <| WC.seq <| WC.region <| sv (vmI rfl) <| sv (vmP rfl) <| sv (vnil rfl) <| sv (vfldpz fl53f0 rfl) <| sv (vldc pl50 rfl) <| sv (vlen Tryz.underlying50 rfl) <| sv (vlt rfl rfl) <| WL.nil <| WX.thenN <| ?_
  refine WC.ite rfl (fun h1 => ?_) (fun h1 => ?_)
  · -- then
    have hil : i < l.length := by omega
    obtain ⟨a, ha⟩ : ∃ a, l[i]? = some a := ⟨_, List.getElem?_eq_getElem hil⟩
    have hpos : 0 < (fla callC l).length := by omega
    refine WC.known (fun w h => rsomeV (base := lb) hpos hR1.rd.cons h) fun hb => ?_
    have hag := fla6d callC_len ha
    have hak := (hi.ok a (List.mem_of_getElem? ha)).1
    obtain ⟨⟨af, an, ak, am⟩, ab⟩ := a
    dsimp only [callC] at hag hak ⊢
    refine WC.skip <| WX.thenN <| WC.seq <| WC.block <| WC.seq <| WC.region <| sv (vmP rfl) <| sv (vnil rfl) <| sv (vfldpz fl53f0 rfl) <| sv (vldc pl50 rfl) <| sv (vmI rfl) <| sv (vix Tryz.underlying50 sz57 rfl rfl (by omega) (by omega) reads (hpos)) <| sv (vlda ag57 sz57 rfl (hR1.rd.mono fun _ h => Sb.own (by repeat' (first | with_reducible exact Sb.all | exact Sb.nil | (apply Sb.cons; focus (first | ((repeat (first | with_reducible exact Tk.here | with_reducible apply Tk.there)); done) | ((repeat (first | exact Tk.here | apply Tk.there)); done))) | apply Sb.drop)) h) hag rfl (by decide)) <| alz (cs := [.int .i64 0, .string ByteArray.empty, .int .i64 0, .int .i64 0, .int .i64 0, .slice none 0 0]) zt57 (by rfl) fun b5 => stAp sz57 rfl rfl rfl (by intro v hv; simp only [List.mem_cons, List.not_mem_nil, or_false] at hv; rcases hv with rfl | rfl | rfl | rfl | rfl | rfl <;> rfl) rfl <| WL.nil <| WX.thenN <| WC.seq <| WC.region <| sv (vfldp fl57f1 rfl) <| sv (vldc pl9 rfl) <| sv (vfldp fl57f2 rfl) <| sv (vldc pl3 rfl) <| sv (vfldp fl57f3 rfl) <| sv (vldap (i := 3) (cs := [.int .i64 ak, .int .i64 am]) ag46 sz46 rfl rfl rfl (by decide)) <| sv (vbd (ps := [(0, .int _ _), (3, .string _), (1, .int _ _), (4, .agg _)]) (cs := vcel 3 an 0 af ak am ⟨none, [], 0⟩) bt48 zt48 rfl (by rfl)) <| alz (cs := [.int .i64 0, .int .i64 0, .int .i64 0, .string ByteArray.empty, .int .i64 0, .int .i64 0, .slice none 0 0]) zt48 (by rfl) fun b11 => stAp sz48 rfl rfl rfl (by intro v hv; simp only [List.mem_cons, List.not_mem_nil, or_false] at hv; rcases hv with rfl | rfl | rfl | rfl | rfl | rfl | rfl <;> rfl) rfl <| WL.nil <| WX.thenN <| WC.seq <| ?_
    refine WC.cutvS (ι := Bool) (fun q => [(43, .bool (!q))]) [(0, .pointer _), (1, .pointer _), (5, .int _ _), (7, _)] (fun q => dv = dr → q = true) ⟨rfl, rfl, rfl, rfl, trivial⟩ ?_ ?_
    · -- law.go:88
      refine WC.region <| sv (vmP rfl) <| sv (vmP rfl) <| sv (vldac ag48 sz48 rfl rfl (by decide)) <| clx (by repeat' (first | with_reducible exact Sb.all | exact Sb.nil | (apply Sb.cons; focus (first | ((repeat (first | with_reducible exact Tk.here | with_reducible apply Tk.there)); done) | ((repeat (first | exact Tk.here | apply Tk.there)); done))) | apply Sb.drop)) (law_ask (l := l) (fl := fl) (b := ⟨none, [], 0⟩) (q := 0) hak hcv hi hN (fun x hx => (hB x hx).mono fun _ h => Sb.own (by repeat' (first | with_reducible exact Sb.all | exact Sb.nil | (apply Sb.cons; focus (first | ((repeat (first | with_reducible exact Tk.here | with_reducible apply Tk.there)); done) | ((repeat (first | exact Tk.here | apply Tk.there)); done))) | apply Sb.drop)) h)) ct26 rfl fun r14 hr14 => ?_
      refine svb (vnot rfl) (fun q1 => ?_) (fun q1 => ?_)
      ·
        exact sv (vmB rfl) <| sng rfl <| sng rfl <| sng rfl <| sng rfl <| sng rfl <| sv (vpkt rfl) <| WL.nil <| WX.mid (false) (fun hd => by rw [hr14 hd] at q1; cases q1) ⟨rfl, trivial⟩ ⟨rfl, rfl, rfl, rfl, trivial⟩ (fun _ h => Sb.own (by repeat' (first | with_reducible exact Sb.all | exact Sb.nil | (apply Sb.cons; focus (first | ((repeat (first | with_reducible exact Tk.here | with_reducible apply Tk.there)); done) | ((repeat (first | exact Tk.here | apply Tk.there)); done))) | apply Sb.drop)) h)
      ·
        refine sv (vmB rfl) <| svg rfl (vmP rfl) <| svg rfl (vmP rfl) <| svg rfl (vldac ag48 sz48 rfl rfl (by decide)) <| gy rfl <| clx (by repeat' (first | with_reducible exact Sb.all | exact Sb.nil | (apply Sb.cons; focus (first | ((repeat (first | with_reducible exact Tk.here | with_reducible apply Tk.there)); done) | ((repeat (first | exact Tk.here | apply Tk.there)); done))) | apply Sb.drop)) (law_ask (l := l) (fl := fl) (b := ⟨none, [], 0⟩) (q := 0) hak hcv hi hN (fun x hx => (hB x hx).mono fun _ h => Sb.own (by repeat' (first | with_reducible exact Sb.all | exact Sb.nil | (apply Sb.cons; focus (first | ((repeat (first | with_reducible exact Tk.here | with_reducible apply Tk.there)); done) | ((repeat (first | exact Tk.here | apply Tk.there)); done))) | apply Sb.drop)) h)) ct26 rfl fun r16 hr16 => ?_
        exact svg rfl (vnot rfl) <| sv (vpkf rfl) <| WL.nil <| WX.mid (r16) (hr16) ⟨rfl, trivial⟩ ⟨rfl, rfl, rfl, rfl, trivial⟩ (fun _ h => Sb.own (by repeat' (first | with_reducible exact Sb.all | exact Sb.nil | (apply Sb.cons; focus (first | ((repeat (first | with_reducible exact Tk.here | with_reducible apply Tk.there)); done) | ((repeat (first | exact Tk.here | apply Tk.there)); done))) | apply Sb.drop)) h)
    intro q hq ρh
    refine WC.iteb rfl (fun h2 => ?_) (fun h2 => ?_)
    · -- then
      exact WC.seq <| WC.region <| sv (vaB rfl) <| WL.nil <| WX.thenN <| WC.ret <| WX.thenR <| WX.blockR <| WX.thenR <| WX.thenR <| WX.blockR <| WX.thenR <| WX.ret1 rfl (false) (fun hd => by rw [hq hd] at h2; cases h2) rfl (fun _ h => Sb.own (by repeat' (first | with_reducible exact Sb.all | exact Sb.nil | (apply Sb.cons; focus (first | ((repeat (first | with_reducible exact Tk.here | with_reducible apply Tk.there)); done) | ((repeat (first | exact Tk.here | apply Tk.there)); done))) | apply Sb.drop)) h)
    · -- else
      refine WC.skip <| WX.thenN <| WC.seq <| WC.region <| sv (vfldpz fl48f0 rfl) <| stp (v := .int _ _) pl3 sz3 rfl rfl rfl <| WL.nil <| WX.thenN <| WC.seq <| WC.region <| sv (vmP rfl) <| sv (vmP rfl) <| sv (vldac ag48 sz48 rfl rfl (by decide)) <| clx (by repeat' (first | with_reducible exact Sb.all | exact Sb.nil | (apply Sb.cons; focus (first | ((repeat (first | with_reducible exact Tk.here | with_reducible apply Tk.there)); done) | ((repeat (first | exact Tk.here | apply Tk.there)); done))) | apply Sb.drop)) (law_ask (l := l) (fl := fl) (b := ⟨none, [], 0⟩) (q := 0) hak hcv hi hN (fun x hx => (hB x hx).mono fun _ h => Sb.own (by repeat' (first | with_reducible exact Sb.all | exact Sb.nil | (apply Sb.cons; focus (first | ((repeat (first | with_reducible exact Tk.here | with_reducible apply Tk.there)); done) | ((repeat (first | exact Tk.here | apply Tk.there)); done))) | apply Sb.drop)) h)) ct26 rfl fun r19 hr19 => ?_
      refine sv (vnot rfl) <| WL.nil <| WX.thenN <| ?_
      refine WC.iteb rfl (fun h3 => ?_) (fun h3 => ?_)
      · -- then
        exact WC.seq <| WC.region <| sv (vaB rfl) <| WL.nil <| WX.thenN <| WC.ret <| WX.blockR <| WX.thenR <| WX.thenR <| WX.blockR <| WX.thenR <| WX.ret1 rfl (false) (fun hd => by rw [hr19 hd] at h3; cases h3) rfl (fun _ h => Sb.own (by repeat' (first | with_reducible exact Sb.all | exact Sb.nil | (apply Sb.cons; focus (first | ((repeat (first | with_reducible exact Tk.here | with_reducible apply Tk.there)); done) | ((repeat (first | exact Tk.here | apply Tk.there)); done))) | apply Sb.drop)) h)
      · -- else
        exact WC.skip <| WX.blockN <| WX.thenN <| WC.region <| sv (vmI rfl) <| sv (vadd rfl rfl (by omega)) <| sv (vaI rfl) <| WL.nil <| WX.again (i + 1) (by omega) (by omega) ⟨rfl, trivial⟩ ⟨rfl, rfl, trivial⟩ (fun _ h => Sb.own (by repeat' (first | with_reducible exact Sb.all | exact Sb.nil | (apply Sb.cons; focus (first | ((repeat (first | with_reducible exact Tk.here | with_reducible apply Tk.there)); done) | ((repeat (first | exact Tk.here | apply Tk.there)); done))) | apply Sb.drop)) h)
  · -- else
    refine WC.exit <| WX.thenE <| WX.thenE <| WX.blockH <| WX.thenN <| WC.seq <| WC.seq <| WC.region <| sv (vaI rfl) <| WL.nil <| WX.thenN <| WC.block <| ?_
    refine WC.loopS (ι := Nat) (fun i => [(8, .int .i64 i)]) [(0, .pointer _), (1, .pointer _)] (fun i => i ≤ fl.length) (fun i => fl.length - i) (0) (by omega) ⟨rfl, trivial⟩ ⟨rfl, rfl, trivial⟩ ?_
    intro i hii ρh
    refine WC.seq <| WC.seq <| WC.region <| sv (vmI rfl) <| sv (vmP rfl) <| sv (vnil rfl) <| sv (vfldp fl53f1 rfl) <| sv (vldc pl50 rfl) <| sv (vlen Tryz.underlying50 rfl) <| sv (vlt rfl rfl) <| WL.nil <| WX.thenN <| ?_
    refine WC.ite rfl (fun h4 => ?_) (fun h4 => ?_)
    · -- then
      have hil : i < fl.length := by omega
      obtain ⟨a, ha⟩ : ∃ a, fl[i]? = some a := ⟨_, List.getElem?_eq_getElem hil⟩
      have hpos : 0 < (fla flC fl).length := by omega
      refine WC.known (fun w h => rsomeV (base := fb) hpos hR2.rd.cons h) fun hb => ?_
      have hf1 := fla6 flC_len ha 1 (by omega)
      have hak := fl_ok (hi.fok a (List.mem_of_getElem? ha))
      refine WC.skip <| WX.thenN <| WC.seq <| WC.block <| WC.seq <| WC.region <| sv (vmP rfl) <| sv (vmP rfl) <| sv (vmP rfl) <| sv (vnil rfl) <| sv (vfldp fl53f1 rfl) <| sv (vldc pl50 rfl) <| sv (vmI rfl) <| sv (vix Tryz.underlying50 sz57 rfl rfl (by omega) (by omega) reads (hpos)) <| sv (vfldr (hb) fl57f1 rfl) <| sv (vldo pl9 rfl reads (hf1)) <| sv (vbd (ps := [(0, .int _ _), (3, .string _)]) (cs := vcel 5 0 0 a.1 0 0 ⟨none, [], 0⟩) bt48 zt48 rfl (by rfl)) <| clx (by repeat' (first | with_reducible exact Sb.all | exact Sb.nil | (apply Sb.cons; focus (first | ((repeat (first | with_reducible exact Tk.here | with_reducible apply Tk.there)); done) | ((repeat (first | exact Tk.here | apply Tk.there)); done))) | apply Sb.drop)) (law_ask (l := l) (fl := fl) (b := ⟨none, [], 0⟩) (q := 0) hak hcv hi hN (fun x hx => (hB x hx).mono fun _ h => Sb.own (by repeat' (first | with_reducible exact Sb.all | exact Sb.nil | (apply Sb.cons; focus (first | ((repeat (first | with_reducible exact Tk.here | with_reducible apply Tk.there)); done) | ((repeat (first | exact Tk.here | apply Tk.there)); done))) | apply Sb.drop)) h)) ct26 rfl fun r26 hr26 => ?_
      refine sv (vnot rfl) <| WL.nil <| WX.thenN <| ?_
      refine WC.iteb rfl (fun h5 => ?_) (fun h5 => ?_)
      · -- then
        exact WC.seq <| WC.region <| sv (vaB rfl) <| WL.nil <| WX.thenN <| WC.ret <| WX.blockR <| WX.thenR <| WX.thenR <| WX.blockR <| WX.thenR <| WX.ret1 rfl (false) (fun hd => by rw [hr26 hd] at h5; cases h5) rfl (fun _ h => Sb.own (by repeat' (first | with_reducible exact Sb.all | exact Sb.nil | (apply Sb.cons; focus (first | ((repeat (first | with_reducible exact Tk.here | with_reducible apply Tk.there)); done) | ((repeat (first | exact Tk.here | apply Tk.there)); done))) | apply Sb.drop)) h)
      · -- else
        exact WC.skip <| WX.blockN <| WX.thenN <| WC.region <| sv (vmI rfl) <| sv (vadd rfl rfl (by omega)) <| sv (vaI rfl) <| WL.nil <| WX.again (i + 1) (by omega) (by omega) ⟨rfl, trivial⟩ ⟨rfl, rfl, trivial⟩ (fun _ h => Sb.own (by repeat' (first | with_reducible exact Sb.all | exact Sb.nil | (apply Sb.cons; focus (first | ((repeat (first | with_reducible exact Tk.here | with_reducible apply Tk.there)); done) | ((repeat (first | exact Tk.here | apply Tk.there)); done))) | apply Sb.drop)) h)
    · -- else
      exact WC.exit <| WX.thenE <| WX.thenE <| WX.blockH <| WX.thenN <| WC.seq <| WC.region <| sv (vaB rfl) <| WL.nil <| WX.thenN <| WC.ret <| WX.ret1 rfl (true) (fun _ => rfl) rfl (fun _ h => Sb.own (by repeat' (first | with_reducible exact Sb.all | exact Sb.nil | (apply Sb.cons; focus (first | ((repeat (first | with_reducible exact Tk.here | with_reducible apply Tk.there)); done) | ((repeat (first | exact Tk.here | apply Tk.there)); done))) | apply Sb.drop)) h)
/-- the same, of a document's vault as one chunk -/
theorem law_isv {w0 : World} {A : List HProp} {v j r w N : Nat} {dn : Bool} {dv dr : VD} (hcv : Cnt dv) (hN : N ≤ 134217728) :
    Fun Tryz.prog w0 13 [.pointer (some ⟨v, 0, none⟩), .pointer (some ⟨r, 0, none⟩)] (pv v j dn dv :: rv r w N dr :: A) (Ret w0 (fun b : Bool => dv = dr → b = true) (fun b => .bool b) (fun _ => pv v j dn dv :: rv r w N dr :: A)) := by
  refine Fun.ex (fun w h => rv_open h.pk1) ?_
  rintro ⟨l, fl, lb, lc, fb, fc⟩ hi
  dsimp only [rvc]
  refine Fun.perm (A' := pv v j dn dv :: cel r [.slice lb l.length lc, .slice fb fl.length fc, .pointer (some ⟨w, 0, none⟩)] 53 :: row lb lc 6 57 (fla callC l) :: row fb fc 6 57 (fla flC fl) :: rows 5 (l.map Prod.snd) :: A) ?_ (fun w h => Sb.own (by repeat' (first | with_reducible exact Sb.all | exact Sb.nil | (apply Sb.cons; focus (first | ((repeat (first | with_reducible exact Tk.here | with_reducible apply Tk.there)); done) | ((repeat (first | exact Tk.here | apply Tk.there)); done))) | apply Sb.drop)) h)
  refine (law_is hcv hi hN fun x hx => RdC.of_rows (e := 5) (l := l.map Prod.snd) (by simp) (List.mem_map.2 ⟨x, hx, rfl⟩)).mono fun e w ⟨i, h1, he, hO⟩ => ⟨i, h1, he, ?_⟩
  have h2 := rv_mk hi (Own.sp4 (by repeat' (first | exact Spl.nil | (apply Spl.cons; focus (first | ((repeat (first | with_reducible exact Tk.here | with_reducible apply Tk.there)); done) | ((repeat (first | exact Tk.here | apply Tk.there)); done))))) hO)
  exact Sb.own (by repeat' (first | with_reducible exact Sb.all | exact Sb.nil | (apply Sb.cons; focus (first | ((repeat (first | with_reducible exact Tk.here | with_reducible apply Tk.there)); done) | ((repeat (first | exact Tk.here | apply Tk.there)); done))) | apply Sb.drop)) h2
theorem law_askv {w0 : World} {A : List HProp} {v j r w N : Nat} {dn : Bool} {dv dr : VD} {kind n q pk pn : Int} {f : ByteArray} {b : Sla UInt8} (hk : PkOk ⟨f, n, pk, pn⟩) (hcv : Cnt dv) (hN : N ≤ 134217728) :
    Fun Tryz.prog w0 26 [.pointer (some ⟨v, 0, none⟩), .pointer (some ⟨r, 0, none⟩), .agg (vcel kind n q f pk pn b).toArray] (pv v j dn dv :: rv r w N dr :: A) (Ret w0 (fun b : Bool => dv = dr → b = true) (fun b => .bool b) (fun _ => pv v j dn dv :: rv r w N dr :: A)) := by
  refine Fun.ex (fun w h => rv_open h.pk1) ?_
  rintro ⟨l, fl, lb, lc, fb, fc⟩ hi
  dsimp only [rvc]
  refine Fun.perm (A' := pv v j dn dv :: cel r [.slice lb l.length lc, .slice fb fl.length fc, .pointer (some ⟨w, 0, none⟩)] 53 :: row lb lc 6 57 (fla callC l) :: row fb fc 6 57 (fla flC fl) :: rows 5 (l.map Prod.snd) :: A) ?_ (fun w h => Sb.own (by repeat' (first | with_reducible exact Sb.all | exact Sb.nil | (apply Sb.cons; focus (first | ((repeat (first | with_reducible exact Tk.here | with_reducible apply Tk.there)); done) | ((repeat (first | exact Tk.here | apply Tk.there)); done))) | apply Sb.drop)) h)
  refine (law_ask hk hcv hi hN fun x hx => RdC.of_rows (e := 5) (l := l.map Prod.snd) (by simp) (List.mem_map.2 ⟨x, hx, rfl⟩)).mono fun e w ⟨i, h1, he, hO⟩ => ⟨i, h1, he, ?_⟩
  have h2 := rv_mk hi (Own.sp4 (by repeat' (first | exact Spl.nil | (apply Spl.cons; focus (first | ((repeat (first | with_reducible exact Tk.here | with_reducible apply Tk.there)); done) | ((repeat (first | exact Tk.here | apply Tk.there)); done))))) hO)
  exact Sb.own (by repeat' (first | with_reducible exact Sb.all | exact Sb.nil | (apply Sb.cons; focus (first | ((repeat (first | with_reducible exact Tk.here | with_reducible apply Tk.there)); done) | ((repeat (first | exact Tk.here | apply Tk.there)); done))) | apply Sb.drop)) h2
theorem v_open_no {w0 : World} {A : List HProp} {dk : Nat} {st st' : DSt} {e : Int} (hd : 0 ≤ st.deeds ∧ st.deeds + 1 ≤ 9223372036854775807) (ho : openS vnm st = (st', e)) (h : e = 0 → redoA (recsB (readS vnm st).1).1 VD.new = none) (hfile : (readS vnm st).1.length ≤ 16777216) : Fun Tryz.prog w0 10 [.pointer (some ⟨dk, 0, none⟩)] (pdisk dk st :: A) (Ret w0 (fun _ : Unit => True) (fun _ => .tuple #[.pointer none, .int .i64 (if e = 0 then 4 else 20)]) (fun _ => pdisk dk st' :: A)) := by
  by_cases he : e = 0
  · subst he
    refine (v_open_ok hd ho hfile).mono fun e w ⟨i, h1, he, hO⟩ => ?_
    rw [h rfl] at h1
    cases i with
    | none => exact ⟨(), trivial, he, hO⟩
    | some x => cases h1
  · rw [if_neg he]; exact v_open_err hd ho he
theorem v_open_some {w0 : World} {A : List HProp} {dk : Nat} {st st' : DSt} {d : VD} (hd : 0 ≤ st.deeds ∧ st.deeds + 1 ≤ 9223372036854775807) (ho : openS vnm st = (st', 0)) (h : redoA (recsB (readS vnm st).1).1 VD.new = some d) (hfile : (readS vnm st).1.length ≤ 16777216) : Fun Tryz.prog w0 10 [.pointer (some ⟨dk, 0, none⟩)] (pdisk dk st :: A) (Ret w0 (fun _ : Nat × Nat => True) (fun i => .tuple #[.pointer (some ⟨i.1, 0, none⟩), .int .i64 0]) (fun i => vall i.1 i.2 dk d ⟨st', (recsB (readS vnm st).1).1.length, false⟩ A)) := by
  refine (v_open_ok hd ho hfile).mono fun e w ⟨i, h1, he, hO⟩ => ?_
  rw [h] at h1
  cases i with
  | none => cases h1
  | some x => obtain ⟨v, j, d'⟩ := x; cases h1; exact ⟨(v, j), trivial, he, hO⟩
theorem ref_open_no16 {w0 : World} {A : List HProp} {rd M : Nat} {st st' : DSt} {e : Int} (hM : M ≤ 134217728) (hd : 0 ≤ st.deeds ∧ st.deeds + 1 ≤ 9223372036854775807) (ho : openS vnm st = (st', e)) (h : e = 0 → redoA (recsB (readS vnm st).1).1 VD.new = none) (hfile : (readS vnm st).1.length ≤ 16777216) : Fun Tryz.prog w0 11 [.pointer (some ⟨rd, 0, none⟩)] (rdisk rd M st :: A) (Ret w0 (fun _ : Unit => True) (fun _ => .tuple #[.pointer none, .int .i64 (if e = 0 then 4 else 20)]) (fun _ => rdisk rd M st' :: A)) := by
  by_cases he : e = 0
  · subst he
    refine (ref_open16_ok hM hd ho hfile).mono fun e w ⟨i, h1, he, hO⟩ => ?_
    rw [h rfl] at h1
    cases i with
    | none => exact ⟨(), trivial, he, hO⟩
    | some x => cases h1
  · rw [if_neg he]; exact ref_open16_err hM hd ho he hfile
theorem ref_open_some16 {w0 : World} {A : List HProp} {rd M : Nat} {st st' : DSt} {d : VD} (hM : M ≤ 134217728) (hd : 0 ≤ st.deeds ∧ st.deeds + 1 ≤ 9223372036854775807) (ho : openS vnm st = (st', 0)) (h : redoA (recsB (readS vnm st).1).1 VD.new = some d) (hfile : (readS vnm st).1.length ≤ 16777216) : Fun Tryz.prog w0 11 [.pointer (some ⟨rd, 0, none⟩)] (rdisk rd M st :: A) (Ret w0 (fun _ : Nat × Nat => True) (fun i => .tuple #[.pointer (some ⟨i.1, 0, none⟩), .int .i64 0]) (fun i => rv i.1 i.2 (recsB (readS vnm st).1).1.length d :: cel i.2 (wcells rd vnm (recsB (readS vnm st).1).1.length false) 100 :: rdisk rd M st' :: A)) := by
  refine (ref_open16_ok hM hd ho hfile).mono fun e w ⟨i, h1, he, hO⟩ => ?_
  rw [h] at h1
  cases i with
  | none => cases h1
  | some x => obtain ⟨v, j, d'⟩ := x; cases h1; exact ⟨(v, j), trivial, he, hO⟩
theorem putW_cnt {k : PK} {b : List UInt8} {d : VD} (h : Cnt d) : Cnt (putW k b d) := fun q hq => by
  unfold putW at hq
  split at hq
  · rename_i h2
    have hq' : (if q = k then some b else d.parts q).isSome = true := hq
    by_cases e : q = k
    · subst e
      unfold whyPut at h2
      split at h2
      · cases h2
      · split at h2
        · cases h2
        · rename_i hc; exact (Decidable.not_not.1 hc).1
    · rw [if_neg e] at hq'; exact h q hq'
  · exact h q hq
theorem dropD_cnt {f : ByteArray} {n : Int} {d : VD} (h : Cnt d) : Cnt (dropD d f n) := fun k hk => by
  have hk' : (if k.flow = f ∧ k.num < n then none else d.parts k).isSome = true := hk
  by_cases e : k.flow = f ∧ k.num < n
  · rw [if_pos e] at hk'; cases hk'
  · rw [if_neg e] at hk'; exact h k hk'
theorem cnt_new : Cnt VD.new := fun k h => absurd h (by show ¬ (none : Option (List UInt8)).isSome = true; decide)
theorem cnt_redo {b : List UInt8} {d d' : VD} (h : Cnt d) (hr : redoP b d = some d') : Cnt d' := by
  unfold redoP at hr
  cases hc : readP b with
  | none => rw [hc] at hr; cases hr
  | some c =>
    rw [hc] at hr
    cases c with
    | put k x =>
      have hr' : (if (whyPut d k).1 = 0 then some (putW k x d) else none) = some d' := hr
      split at hr'
      · cases hr'; exact putW_cnt h
      · cases hr'
    | drop f n =>
      have hr' : (if (whyDrop d f n).1 = 0 then some (dropW f n d) else none) = some d' := hr
      split at hr'
      · cases hr'; unfold dropW; split
        · exact dropD_cnt h
        · exact h
      · cases hr'
theorem cnt_redoA : ∀ {l : List (List UInt8)} {d d' : VD}, Cnt d → redoA l d = some d' → Cnt d'
  | [], d, d', h, hr => by cases hr; exact h
  | b :: l, d, d', h, hr => by
    have hr' : (redoP b d).bind (fun d => redoA l d) = some d' := by unfold redoA at hr ⊢; rw [List.foldlM_cons] at hr; exact hr
    cases hb : redoP b d with
    | none => rw [hb] at hr'; cases hr'
    | some d1 => rw [hb] at hr'; exact cnt_redoA (cnt_redo h hb) hr'
theorem actS_bounds {w : Int × Bool} {rec : List UInt8} {d' d : VD} {s : JV} : s.st.deeds ≤ (actS w rec d' d s).1.2.st.deeds ∧ (actS w rec d' d s).1.2.st.deeds ≤ s.st.deeds + 2 ∧ s.n ≤ (actS w rec d' d s).1.2.n ∧ (actS w rec d' d s).1.2.n ≤ s.n + 1 := by
  have hb := addP_deeds vnm rec s.st
  unfold actS
  split
  · dsimp only; omega
  · split
    · dsimp only; omega
    · split
      · dsimp only; omega
      · dsimp only; split <;> omega
theorem callL_bounds {kind : Int} {k : PK} {b : List UInt8} {d : VD} {s : JV} : s.st.deeds ≤ (callL kind k b d s).1.2.st.deeds ∧ (callL kind k b d s).1.2.st.deeds ≤ s.st.deeds + 2 ∧ s.n ≤ (callL kind k b d s).1.2.n ∧ (callL kind k b d s).1.2.n ≤ s.n + 1 := by
  unfold callL; split <;> exact actS_bounds
theorem callL_cnt {kind : Int} {k : PK} {b : List UInt8} {d : VD} {s : JV} (h : Cnt d) : Cnt (callL kind k b d s).1.1 := by
  unfold callL dropS putS actS
  split
  · split
    · exact h
    · split
      · exact h
      · split
        · exact h
        · dsimp only; split
          · exact dropD_cnt h
          · exact h
  · split
    · exact h
    · split
      · exact h
      · split
        · exact h
        · rename_i h2
          dsimp only; split
          · have := putW_cnt (k := k) (b := b) h
            unfold putW at this
            rwa [if_pos (by simpa using h2)] at this
          · exact h
theorem rdisk_new16 {w0 w : World} {A : List HProp} {r : Nat} (h : Own w0 (cel r [.slice none 0 0, .bool false, .int .i64 0, .int .i64 0, .int .i64 0] 29 :: A) w) : Own w0 (rdisk r 0 newD :: A) w :=
  rdisk_mk (l := []) (base := none) (c := 0) RRep.new ⟨Nat.le_refl _, Nat.le_refl _⟩ ((Own.intro_row_nil (Own.intro_emp h)).ix [2, 0, 1])
theorem vopen_new : openS vnm newD = (newD, 0) := by
  have h1 : readS vnm newD = ([], 21) := rfl
  unfold openS
  rw [if_neg (by decide), if_neg (fun h => h vnm_ok), h1]
  dsimp only
  rw [recsB_nil, if_pos rfl]
theorem vrecs_new : (recsB (readS vnm newD).1).1 = [] := by
  have h1 : readS vnm newD = ([], 21) := rfl
  rw [h1, recsB_nil]
end Go.Proofs.YthljpljbpbkkcaaGreatDoor
end
section
set_option linter.unusedVariables false
set_option linter.unusedSimpArgs false
set_option maxRecDepth 4000
namespace Go.Proofs.YthljpljbpbkkcaaGreatDoor
open Go.Sl Go.RowKit Go.Pack Go.Vault Go.Journal

/-- frames were put behind one another, nothing failed -/
structure Ap (st : DSt) (all : List UInt8) (k : Nat) : Prop where
  off : st.off = false
  fuse : st.fuse = 0
  deeds : st.deeds = k
  file : (st.files vnm).getD ([], 0) = (all, 0)
theorem Ap.new : Ap newD [] 0 := ⟨rfl, rfl, rfl, rfl⟩
theorem Ap.add {st : DSt} {all b : List UInt8} {k : Nat} (h : Ap st all k) (hl : all.length + b.length ≤ 16777216) : ∃ st', appendS vnm b st = (st', 0) ∧ Ap st' (all ++ b) (k + 1) := by
  have ha := appendS_eq (b := b) h.off vnm_ok (V := (all ++ b, 0)) (n := all.length + b.length) (by unfold appendV; rw [h.file]) (by rw [List.length_append])
  have hu := h.fuse
  rw [if_pos hl, if_neg (by omega)] at ha
  refine ⟨_, ha, h.off, ?_, ?_, ?_⟩
  · dsimp only; rw [hu]; rfl
  · dsimp only; rw [h.deeds]; rfl
  · simp [putV]
theorem Ap.read {st : DSt} {all : List UInt8} {k : Nat} (h : Ap st all k) : (readS vnm st).1 = all := by
  have := h.file
  unfold readS
  rw [if_neg (by rw [h.off]; decide)]
  cases hf : st.files vnm with
  | none => rw [hf] at this; exact (congrArg Prod.fst this)
  | some v => rw [hf] at this; exact (congrArg Prod.fst this)
theorem Ap.open_ {st : DSt} {rs : List (List UInt8)} {k : Nat} (h : Ap st (flat rs) k) (hs : ∀ r ∈ rs, r.length ≤ 1048576) : openS vnm st = (st, 0) ∧ (recsB (readS vnm st).1).1 = rs := by
  have hr := recsB_flat rs [] hs
  rw [List.append_nil, recsB_nil, List.append_nil] at hr
  unfold openS
  rw [if_neg (by rw [h.off]; decide), if_neg (fun h => h vnm_ok), h.read, hr]
  exact ⟨if_pos rfl, rfl⟩
theorem flat_lenO {rs : List (List UInt8)} (h : ∀ r ∈ rs, r.length ≤ 1024) : (flat rs).length ≤ 1032 * rs.length := by
  induction rs with
  | nil => simp [flat]
  | cons r rs ih =>
    have e : flat (r :: rs) = frameB r ++ flat rs := by simp [flat]
    have h1 := h r (by simp)
    have h2 := ih fun x hx => h x (by simp [hx])
    rw [e, List.length_append, frame_length, List.length_cons]; omega
theorem flat_snocO {rs : List (List UInt8)} {i : Nat} {r : List UInt8} (h : rs[i]? = some r) : flat (rs.take (i + 1)) = flat (rs.take i) ++ frameB r := by
  rw [List.take_add_one, h, flat_append, Option.toList_some, Go.Journal.flat_one]
theorem bss_atO {l : List (Sla UInt8)} {i : Nat} (h : i < l.length) : (bss l)[((i : Int)).toNat]? = some (.slice l[i].base l[i].xs.length l[i].cap) := by rw [Int.toNat_natCast]; simp [bss, h]
theorem law_opens16 {w0 : World} {A : List HProp} {pb : Option Addr} {pc : Nat} {ps : List (Sla UInt8)} (hp : Rd w0 pb (bss ps)) (hps : ∀ x ∈ ps, Rd w0 x.base (u8s x.xs)) :
    Fun Tryz.prog w0 3 [.slice pb ps.length pc] A (Ret w0 (fun _ : Unit => True) (fun _ => .bool true) (fun _ => A)) := by
  obtain ⟨rs, hrs⟩ : ∃ rs, rs = ps.map (·.xs) := ⟨_, rfl⟩
  have hrl : rs.length = ps.length := by rw [hrs, List.length_map]
  refine Fun.enter Tryz.func3 rfl Tryz.ntmps3 rfl ?_
  refine WC.seq <| WC.region <| sv (vaB rfl) <| WL.nil <| WX.thenN <| WC.seq <| WC.seq <| WC.region <| sv (vmS rfl) <| sv (vlen Tryz.underlying22 rfl) <| sv (vgt rfl rfl) <| WL.nil <| WX.thenN <| ?_
  refine WC.ite rfl (fun h1 => ?_) (fun h1 => ?_)
  · -- then
    exact WC.seq <| WC.region <| sv (vaB rfl) <| WL.nil <| WX.thenN <| WC.ret <| WX.thenR <| WX.ret1 rfl (()) (trivial) rfl (fun _ h => Sb.own (by repeat' (first | with_reducible exact Sb.all | exact Sb.nil | (apply Sb.cons; focus (first | ((repeat (first | with_reducible exact Tk.here | with_reducible apply Tk.there)); done) | ((repeat (first | exact Tk.here | apply Tk.there)); done))) | apply Sb.drop)) h)
  · -- else
    refine WC.skip <| WX.thenN <| WC.seq <| WC.seq <| WC.region <| sv (vaI rfl) <| WL.nil <| WX.thenN <| WC.block <| ?_
    refine WC.loopS (ι := Nat) (fun i => [(3, .int .i64 i)]) [(0, .slice _ _ _)] (fun i => i ≤ ps.length ∧ ∀ x ∈ ps.take i, x.xs.length ≤ 1024) (fun i => ps.length - i) (0) (⟨Nat.zero_le _, fun x h => by rw [List.take_zero] at h; cases h⟩) ⟨rfl, trivial⟩ ⟨rfl, trivial⟩ ?_
    intro i hi ρh
    refine WC.seq <| WC.seq <| WC.region <| sv (vmI rfl) <| sv (vmS rfl) <| sv (vlen Tryz.underlying22 rfl) <| sv (vlt rfl rfl) <| WL.nil <| WX.thenN <| ?_
    refine WC.ite rfl (fun h2 => ?_) (fun h2 => ?_)
    · -- then
      have hil : i < ps.length := by omega
      refine WC.skip <| WX.thenN <| WC.seq <| WC.block <| WC.seq <| WC.region <| sv (vmS rfl) <| sv (vmI rfl) <| sv (vix1 Tryz.underlying22 sz23 rfl rfl (by omega) (by omega) (RdC.old hp) (by rw [bss_length]; omega)) <| sv (vldo pl23 rfl (RdC.old hp) (bss_atO hil)) <| sv (vlen Tryz.underlying23 rfl) <| sv (vgt rfl rfl) <| WL.nil <| WX.thenN <| ?_
      refine WC.ite rfl (fun h3 => ?_) (fun h3 => ?_)
      · -- then
        exact WC.seq <| WC.region <| sv (vaB rfl) <| WL.nil <| WX.thenN <| WC.ret <| WX.blockR <| WX.thenR <| WX.thenR <| WX.blockR <| WX.thenR <| WX.ret1 rfl (()) (trivial) rfl (fun _ h => Sb.own (by repeat' (first | with_reducible exact Sb.all | exact Sb.nil | (apply Sb.cons; focus (first | ((repeat (first | with_reducible exact Tk.here | with_reducible apply Tk.there)); done) | ((repeat (first | exact Tk.here | apply Tk.there)); done))) | apply Sb.drop)) h)
      · -- else
        refine WC.skip <| WX.blockN <| WX.thenN <| WC.region <| sv (vmI rfl) <| sv (vadd rfl rfl (by omega)) <| sv (vaI rfl) <| WL.nil <| WX.again (i + 1) (⟨by omega, fun x hx => by rw [List.take_add_one, List.getElem?_eq_getElem hil] at hx; rcases List.mem_append.1 hx with hx | hx; exact hi.2 x hx; have : x = ps[i] := (by simpa using hx); rw [this]; omega⟩) (by omega) ⟨rfl, trivial⟩ ⟨rfl, trivial⟩ (fun _ h => Sb.own (by repeat' (first | with_reducible exact Sb.all | exact Sb.nil | (apply Sb.cons; focus (first | ((repeat (first | with_reducible exact Tk.here | with_reducible apply Tk.there)); done) | ((repeat (first | exact Tk.here | apply Tk.there)); done))) | apply Sb.drop)) h)
    · -- else
      have hsm : ∀ x ∈ ps, x.xs.length ≤ 1024 := by have := hi.2; rwa [List.take_of_length_le (by omega)] at this
      have hpl : ps.length ≤ 60 := by omega
      have hr1 : ∀ r ∈ rs, r.length ≤ 1024 := fun r hr => by rw [hrs] at hr; obtain ⟨x, hx, rfl⟩ := List.mem_map.1 hr; exact hsm x hx
      refine WC.exit <| WX.thenE <| WX.thenE <| WX.blockH <| WX.thenN <| WC.seq <| WC.region <| clx (by repeat' (first | with_reducible exact Sb.all | exact Sb.nil | (apply Sb.cons; focus (first | ((repeat (first | with_reducible exact Tk.here | with_reducible apply Tk.there)); done) | ((repeat (first | exact Tk.here | apply Tk.there)); done))) | apply Sb.drop)) (disk_new) ct6 rfl fun r4 hr4 => ?_
      refine sv (vaP rfl) <| WL.nil <| WX.thenN <| WC.seq <| WC.region <| sv (vbd (ps := []) (cs := [_, _, _, _, _]) bt29 zt29 rfl (by rfl)) <| bxc (v := .agg _) (cs := [.slice _ _ _, .bool _, .int _ _, .int _ _, .int _ _]) rfl rfl fun b6 => sv (vaP rfl) <| WL.nil <| WX.thenN <| WC.seq <| WC.seq <| WC.region <| sv (vaI rfl) <| WL.nil <| WX.thenN <| WC.block <| ?_
      refine WC.loop (ι := Nat × DSt) (fun i => [(6, .int .i64 i.1)]) [(0, .slice _ _ _), (4, .pointer _), (5, .pointer _)] (fun i => pdisk r4 i.2 :: rdisk b6 i.1 i.2 :: A) (fun i => i.1 ≤ ps.length ∧ Ap i.2 (flat (rs.take i.1)) i.1) (fun i => ps.length - i.1) ((0, newD)) (⟨Nat.zero_le _, Ap.new⟩) ⟨rfl, trivial⟩ ⟨rfl, rfl, rfl, trivial⟩ (fun w h => by have h2 := rdisk_new16 (Own.sp1 (by repeat' (first | exact Spl.nil | (apply Spl.cons; focus (first | ((repeat (first | with_reducible exact Tk.here | with_reducible apply Tk.there)); done) | ((repeat (first | exact Tk.here | apply Tk.there)); done))))) h); exact Sb.own (by repeat' (first | with_reducible exact Sb.all | exact Sb.nil | (apply Sb.cons; focus (first | ((repeat (first | with_reducible exact Tk.here | with_reducible apply Tk.there)); done) | ((repeat (first | exact Tk.here | apply Tk.there)); done))) | apply Sb.drop)) h2) ?_
      rintro ⟨i, st⟩ ⟨hi1, hi2⟩ ρh
      dsimp only at hi1 hi2 ⊢
      refine WC.seq <| WC.seq <| WC.region <| sv (vmI rfl) <| sv (vmS rfl) <| sv (vlen Tryz.underlying22 rfl) <| sv (vlt rfl rfl) <| WL.nil <| WX.thenN <| ?_
      refine WC.ite rfl (fun h4 => ?_) (fun h4 => ?_)
      · -- then
        have hil : i < ps.length := by omega
        have hri : rs[i]? = some ps[i].xs := by rw [hrs, List.getElem?_map, List.getElem?_eq_getElem hil]; rfl
        have hxl : ps[i].xs.length ≤ 1024 := hsm _ (List.getElem_mem hil)
        have hfl := flat_lenO (rs := rs.take i) fun r hr => hr1 r (List.mem_of_mem_take hr)
        rw [List.length_take] at hfl
        have hfr := frame_length ps[i].xs
        obtain ⟨st', hap, hi3⟩ := hi2.add (b := frameB ps[i].xs) (by omega)
        rw [← flat_snocO hri] at hi3
        have hde := hi2.deeds
        refine WC.skip <| WX.thenN <| WC.seq <| WC.block <| WC.seq <| WC.region <| sv (vmS rfl) <| sv (vmI rfl) <| sv (vix1 Tryz.underlying22 sz23 rfl rfl (by omega) (by omega) (RdC.old hp) (by rw [bss_length]; omega)) <| sv (vldo pl23 rfl (RdC.old hp) (bss_atO hil)) <| clx (by repeat' (first | with_reducible exact Sb.all | exact Sb.nil | (apply Sb.cons; focus (first | ((repeat (first | with_reducible exact Tk.here | with_reducible apply Tk.there)); done) | ((repeat (first | exact Tk.here | apply Tk.there)); done))) | apply Sb.drop)) (ref_frame (RdC.old (hps _ (List.getElem_mem hil))) rfl (by omega)) ct7 rfl fun r9 hr9 => ?_
        refine sv (vaS rfl) <| WL.nil <| WX.thenN <| ?_
        refine WC.cut0 [(50, .bool false)] [(0, .slice _ _ _), (4, .pointer _), (5, .pointer _), (6, .int _ _)] (pdisk r4 st' :: rdisk b6 (i + 1) st' :: A) ⟨rfl, rfl, rfl, rfl, trivial⟩ ?_ fun ρh => ?_
        · -- law.go:193
          refine WC.region <| sv (vmP rfl) <| sv (vmS rfl) <| clx (by repeat' (first | with_reducible exact Sb.all | exact Sb.nil | (apply Sb.cons; focus (first | ((repeat (first | with_reducible exact Tk.here | with_reducible apply Tk.there)); done) | ((repeat (first | exact Tk.here | apply Tk.there)); done))) | apply Sb.drop)) (disk_append (nm := vnm) (b := frameB ps[i].xs) vnm_len (by omega) (by omega) rfl) ct8 rfl fun r10 hr10 => ?_
          rw [hap]
          refine svs (vne rfl rfl) (fun q1 => ?_) (fun q1 => ?_)
          ·
            exact sv (vmB rfl) <| sng rfl <| sng rfl <| sng rfl <| sng rfl <| sv (vpkt rfl) <| WL.nil <| WX.mid () trivial ⟨(by exact absurd rfl (by assumption)), trivial⟩ ⟨rfl, rfl, rfl, rfl, trivial⟩ (fun w h => by exact absurd rfl (by assumption))
          ·
            refine sv (vmB rfl) <| svg rfl (vmP rfl) <| svg rfl (vmS rfl) <| gy rfl <| clx (by repeat' (first | with_reducible exact Sb.all | exact Sb.nil | (apply Sb.cons; focus (first | ((repeat (first | with_reducible exact Tk.here | with_reducible apply Tk.there)); done) | ((repeat (first | exact Tk.here | apply Tk.there)); done))) | apply Sb.drop)) (ref_append (nm := vnm) (b := frameB ps[i].xs) (by omega) reads rfl (by omega)) ct9 rfl fun r11 hr11 => ?_
            rw [hap]
            exact svg rfl (vne rfl rfl) <| sv (vpkf rfl) <| WL.nil <| WX.mid () trivial ⟨rfl, trivial⟩ ⟨rfl, rfl, rfl, rfl, trivial⟩ (fun _ h => Sb.own (by repeat' (first | with_reducible exact Sb.all | exact Sb.nil | (apply Sb.cons; focus (first | ((repeat (first | with_reducible exact Tk.here | with_reducible apply Tk.there)); done) | ((repeat (first | exact Tk.here | apply Tk.there)); done))) | apply Sb.drop)) h)
        refine WC.ff rfl ?_
        exact WC.skip <| WX.blockN <| WX.thenN <| WC.region <| sv (vmI rfl) <| sv (vadd rfl rfl (by omega)) <| sv (vaI rfl) <| WL.nil <| WX.again ((i + 1, st')) (⟨by omega, hi3⟩) (by omega) ⟨rfl, trivial⟩ ⟨rfl, rfl, rfl, trivial⟩ (fun _ h => Sb.own (by repeat' (first | with_reducible exact Sb.all | exact Sb.nil | (apply Sb.cons; focus (first | ((repeat (first | with_reducible exact Tk.here | with_reducible apply Tk.there)); done) | ((repeat (first | exact Tk.here | apply Tk.there)); done))) | apply Sb.drop)) h)
      · -- else
        have htk : rs.take i = rs := List.take_of_length_le (by omega)
        rw [htk] at hi2
        have hde := hi2.deeds
        obtain ⟨hop, hrc⟩ := hi2.open_ fun r hr => Nat.le_trans (hr1 r hr) (by decide)
        have hfl := flat_lenO hr1
        have hfile : (readS vnm st).1.length ≤ 16777216 := by rw [hi2.read]; omega
        rw [← hrc] at hrl
        cases hro : redoA (recsB (readS vnm st).1).1 VD.new
        · -- no
          refine WC.exit <| WX.thenE <| WX.thenE <| WX.blockH <| WX.thenN <| WC.seq <| WC.region <| sv (vmP rfl) <| clx (by repeat' (first | with_reducible exact Sb.all | exact Sb.nil | (apply Sb.cons; focus (first | ((repeat (first | with_reducible exact Tk.here | with_reducible apply Tk.there)); done) | ((repeat (first | exact Tk.here | apply Tk.there)); done))) | apply Sb.drop)) (v_open_no (st := st) (by omega) hop (fun _ => hro) hfile) ct10 rfl fun r13 hr13 => ?_
          refine sv vmv <| sv (vex rfl rfl) <| sv (vex rfl rfl) <| sv (vaP rfl) <| sv (vaI rfl) <| WL.nil <| WX.thenN <| WC.seq <| WC.region <| sv (vmP rfl) <| clx (by repeat' (first | with_reducible exact Sb.all | exact Sb.nil | (apply Sb.cons; focus (first | ((repeat (first | with_reducible exact Tk.here | with_reducible apply Tk.there)); done) | ((repeat (first | exact Tk.here | apply Tk.there)); done))) | apply Sb.drop)) (ref_open_no16 (st := st) (by omega) (by omega) hop (fun _ => hro) hfile) ct11 rfl fun r14 hr14 => ?_
          refine sv vmv <| sv (vex rfl rfl) <| sv (vex rfl rfl) <| sv (vaP rfl) <| sv (vaI rfl) <| WL.nil <| WX.thenN <| WC.seq <| ?_
          refine WC.cutS [(70, .bool false)] [(8, .pointer _), (10, .pointer _)] ⟨rfl, rfl, trivial⟩ ?_ fun ρh => ?_
          · -- law.go:199
            refine WC.region <| sv (vmI rfl) <| sv (vmI rfl) <| svs (vne rfl rfl) (fun q2 => ?_) (fun q2 => ?_)
            ·
              exact sv (vmB rfl) <| sng rfl <| sng rfl <| sng rfl <| sng rfl <| sng rfl <| sv (vpkt rfl) <| WL.nil <| WX.mid () trivial ⟨(by exact absurd rfl (by assumption)), trivial⟩ ⟨rfl, rfl, trivial⟩ (fun _ h => Sb.own (by repeat' (first | with_reducible exact Sb.all | exact Sb.nil | (apply Sb.cons; focus (first | ((repeat (first | with_reducible exact Tk.here | with_reducible apply Tk.there)); done) | ((repeat (first | exact Tk.here | apply Tk.there)); done))) | apply Sb.drop)) h)
            ·
              exact sv (vmB rfl) <| svg rfl (vmP rfl) <| svg rfl (vpeqT Tryz.underlying33 rfl rfl) <| svg rfl (vmP rfl) <| svg rfl (vpeqT Tryz.underlying36 rfl rfl) <| svg rfl (vneb Tryz.underlying4 rfl rfl) <| sv (vpkf rfl) <| WL.nil <| WX.mid () trivial ⟨rfl, trivial⟩ ⟨rfl, rfl, trivial⟩ (fun _ h => Sb.own (by repeat' (first | with_reducible exact Sb.all | exact Sb.nil | (apply Sb.cons; focus (first | ((repeat (first | with_reducible exact Tk.here | with_reducible apply Tk.there)); done) | ((repeat (first | exact Tk.here | apply Tk.there)); done))) | apply Sb.drop)) h)
          refine WC.ff rfl ?_
          refine WC.skip <| WX.thenN <| ?_
          refine WC.cut0 [(2, .bool true)] [] (A) trivial ?_ fun ρh => ?_
          · -- law.go:202
            refine WC.region <| clx (by repeat' (first | with_reducible exact Sb.all | exact Sb.nil | (apply Sb.cons; focus (first | ((repeat (first | with_reducible exact Tk.here | with_reducible apply Tk.there)); done) | ((repeat (first | exact Tk.here | apply Tk.there)); done))) | apply Sb.drop)) (law_awake) ct12 rfl fun r17 hr17 => ?_
            exact sv (vmB rfl) <| svg rfl (vmP rfl) <| svg rfl (vpeqT Tryz.underlying33 rfl rfl) <| svg rfl (vmB rfl) <| sng rfl <| sng rfl <| sng rfl <| svg rfl (vpkt rfl) <| sv (vpkt rfl) <| sv (vaB rfl) <| WL.nil <| WX.mid () trivial ⟨rfl, trivial⟩ trivial (fun _ h => Sb.own (by repeat' (first | with_reducible exact Sb.all | exact Sb.nil | (apply Sb.cons; focus (first | ((repeat (first | with_reducible exact Tk.here | with_reducible apply Tk.there)); done) | ((repeat (first | exact Tk.here | apply Tk.there)); done))) | apply Sb.drop)) h)
          exact WC.ret <| WX.ret1 rfl (()) (trivial) rfl (fun _ h => Sb.own (by repeat' (first | with_reducible exact Sb.all | exact Sb.nil | (apply Sb.cons; focus (first | ((repeat (first | with_reducible exact Tk.here | with_reducible apply Tk.there)); done) | ((repeat (first | exact Tk.here | apply Tk.there)); done))) | apply Sb.drop)) h)
        · -- op
          rename_i d'
          have hc' := cnt_redoA cnt_new hro
          refine WC.exit <| WX.thenE <| WX.thenE <| WX.blockH <| WX.thenN <| WC.seq <| WC.region <| sv (vmP rfl) <| clx (by repeat' (first | with_reducible exact Sb.all | exact Sb.nil | (apply Sb.cons; focus (first | ((repeat (first | with_reducible exact Tk.here | with_reducible apply Tk.there)); done) | ((repeat (first | exact Tk.here | apply Tk.there)); done))) | apply Sb.drop)) (v_open_some (d := d') (st := st) (by omega) hop hro hfile) ct10 rfl fun r13 hr13 => ?_
          refine sv vmv <| sv (vex rfl rfl) <| sv (vex rfl rfl) <| sv (vaP rfl) <| sv (vaI rfl) <| WL.nil <| WX.thenN <| WC.seq <| WC.region <| sv (vmP rfl) <| clx (by repeat' (first | with_reducible exact Sb.all | exact Sb.nil | (apply Sb.cons; focus (first | ((repeat (first | with_reducible exact Tk.here | with_reducible apply Tk.there)); done) | ((repeat (first | exact Tk.here | apply Tk.there)); done))) | apply Sb.drop)) (ref_open_some16 (d := d') (st := st) (by omega) (by omega) hop hro hfile) ct11 rfl fun r14 hr14 => ?_
          refine sv vmv <| sv (vex rfl rfl) <| sv (vex rfl rfl) <| sv (vaP rfl) <| sv (vaI rfl) <| WL.nil <| WX.thenN <| WC.seq <| ?_
          refine WC.cutS [(70, .bool false)] [(8, .pointer _), (10, .pointer _)] ⟨rfl, rfl, trivial⟩ ?_ fun ρh => ?_
          · -- law.go:199
            refine WC.region <| sv (vmI rfl) <| sv (vmI rfl) <| svs (vne rfl rfl) (fun q3 => ?_) (fun q3 => ?_)
            ·
              exact sv (vmB rfl) <| sng rfl <| sng rfl <| sng rfl <| sng rfl <| sng rfl <| sv (vpkt rfl) <| WL.nil <| WX.mid () trivial ⟨(by exact absurd rfl (by assumption)), trivial⟩ ⟨rfl, rfl, trivial⟩ (fun _ h => Sb.own (by repeat' (first | with_reducible exact Sb.all | exact Sb.nil | (apply Sb.cons; focus (first | ((repeat (first | with_reducible exact Tk.here | with_reducible apply Tk.there)); done) | ((repeat (first | exact Tk.here | apply Tk.there)); done))) | apply Sb.drop)) h)
            ·
              exact sv (vmB rfl) <| svg rfl (vmP rfl) <| svg rfl (vpeqF Tryz.underlying33 rfl rfl) <| svg rfl (vmP rfl) <| svg rfl (vpeqF Tryz.underlying36 rfl rfl) <| svg rfl (vneb Tryz.underlying4 rfl rfl) <| sv (vpkf rfl) <| WL.nil <| WX.mid () trivial ⟨rfl, trivial⟩ ⟨rfl, rfl, trivial⟩ (fun _ h => Sb.own (by repeat' (first | with_reducible exact Sb.all | exact Sb.nil | (apply Sb.cons; focus (first | ((repeat (first | with_reducible exact Tk.here | with_reducible apply Tk.there)); done) | ((repeat (first | exact Tk.here | apply Tk.there)); done))) | apply Sb.drop)) h)
          refine WC.ff rfl ?_
          refine WC.skip <| WX.thenN <| ?_
          refine WC.cut0 [(2, .bool true)] [] (A) trivial ?_ fun ρh => ?_
          · -- law.go:202
            refine WC.region <| clx (by repeat' (first | with_reducible exact Sb.all | exact Sb.nil | (apply Sb.cons; focus (first | ((repeat (first | with_reducible exact Tk.here | with_reducible apply Tk.there)); done) | ((repeat (first | exact Tk.here | apply Tk.there)); done))) | apply Sb.drop)) (law_awake) ct12 rfl fun r17 hr17 => ?_
            refine sv (vmB rfl) <| svg rfl (vmP rfl) <| svg rfl (vpeqF Tryz.underlying33 rfl rfl) <| svg rfl (vmB rfl) <| svg rfl (vmP rfl) <| svg rfl (vmP rfl) <| gy rfl <| clx (by repeat' (first | with_reducible exact Sb.all | exact Sb.nil | (apply Sb.cons; focus (first | ((repeat (first | with_reducible exact Tk.here | with_reducible apply Tk.there)); done) | ((repeat (first | exact Tk.here | apply Tk.there)); done))) | apply Sb.drop)) (law_isv hc' (by omega)) ct13 rfl fun r19 hr19 => ?_
            have e19 := hr19 rfl
            subst e19
            exact svg rfl (vpkf rfl) <| sv (vpkt rfl) <| sv (vaB rfl) <| WL.nil <| WX.mid () trivial ⟨rfl, trivial⟩ trivial (fun _ h => Sb.own (by repeat' (first | with_reducible exact Sb.all | exact Sb.nil | (apply Sb.cons; focus (first | ((repeat (first | with_reducible exact Tk.here | with_reducible apply Tk.there)); done) | ((repeat (first | exact Tk.here | apply Tk.there)); done))) | apply Sb.drop)) h)
          exact WC.ret <| WX.ret1 rfl (()) (trivial) rfl (fun _ h => Sb.own (by repeat' (first | with_reducible exact Sb.all | exact Sb.nil | (apply Sb.cons; focus (first | ((repeat (first | with_reducible exact Tk.here | with_reducible apply Tk.there)); done) | ((repeat (first | exact Tk.here | apply Tk.there)); done))) | apply Sb.drop)) h)
end Go.Proofs.YthljpljbpbkkcaaGreatDoor
end
section
set_option linter.unusedVariables false
set_option linter.unusedSimpArgs false
set_option maxRecDepth 4000
namespace Go.Proofs.YthljpljbpbkkcaaGreatDoor
open Go.Sl Go.RowKit Go.Pack Go.Vault Go.Journal

/-! ### A record reads back -/
theorem rtextL {s : List UInt8} (h : s.length ≤ 4096) (rest : List UInt8) : rtext (text s ++ rest) = some (s, rest) := by
  unfold rtext text
  rw [List.append_assoc, take_num (by omega)]
  simp
  omega
theorem rnumL {x : Int} (hx : -9223372036854775808 ≤ x ∧ x ≤ 9223372036854775807) (rest : List UInt8) : rnum (some (num x ++ rest)) = x ∧ rnumS (some (num x ++ rest)) = some rest := by
  have h := take_num hx rest
  constructor
  · show (((some (num x ++ rest)).bind take).map (·.1)).getD 0 = x
    simp [h]
  · show (some (num x ++ rest)).bind (fun bs => (take bs).map fun p => bs.drop p.2) = some rest
    simp [h]
theorem txL {s : List UInt8} (h : s.length ≤ 4096) (rest : List UInt8) : txS (some (text s ++ rest)) = s ∧ txR (some (text s ++ rest)) = some rest := by
  have h := rtextL h rest
  constructor
  · show (((some (text s ++ rest)).bind rtext).map (·.1)).getD [] = s
    simp [h]
  · show ((some (text s ++ rest)).bind rtext).map (·.2) = some rest
    simp [h]
theorem ba_back {f : ByteArray} : (⟨f.data.toList.toArray⟩ : ByteArray) = f := by cases f; rfl
theorem readP_put {k : PK} {b : List UInt8} (hk : PkOk k) (hf : k.flow.size ≤ 4096) (hb : b.length ≤ 4096) : readP (recPut k b) = some (.put k b) := by
  have hfl : k.flow.data.toList.length ≤ 4096 := hf
  have e : recPut k b = num 1 ++ (text k.flow.data.toList ++ (num k.num ++ (num k.kind ++ (num k.n ++ (text b ++ []))))) := by unfold recPut; simp
  obtain ⟨a1, a2⟩ := rnumL (x := 1) (by decide) (text k.flow.data.toList ++ (num k.num ++ (num k.kind ++ (num k.n ++ (text b ++ [])))))
  obtain ⟨b1, b2⟩ := txL hfl (num k.num ++ (num k.kind ++ (num k.n ++ (text b ++ []))))
  obtain ⟨c1, c2⟩ := rnumL hk.num (num k.kind ++ (num k.n ++ (text b ++ [])))
  obtain ⟨d1, d2⟩ := rnumL hk.kind (num k.n ++ (text b ++ []))
  obtain ⟨e1, e2⟩ := rnumL hk.n (text b ++ [])
  obtain ⟨f1, f2⟩ := txL hb []
  unfold readP
  rw [e, a2, b2, c2, d2, e2, f2, a1, b1, c1, d1, e1, f1, if_pos rfl, if_pos rfl, ba_back]
theorem readP_drop {f : ByteArray} {n : Int} (hf : f.size ≤ 4096) (hn : -9223372036854775808 ≤ n ∧ n ≤ 9223372036854775807) : readP (recDrop f n) = some (.drop f n) := by
  have hfl : f.data.toList.length ≤ 4096 := hf
  have e : recDrop f n = num 2 ++ (text f.data.toList ++ (num n ++ [])) := by unfold recDrop; simp
  obtain ⟨a1, a2⟩ := rnumL (x := 2) (by decide) (text f.data.toList ++ (num n ++ []))
  obtain ⟨b1, b2⟩ := txL hfl (num n ++ [])
  obtain ⟨c1, c2⟩ := rnumL hn []
  unfold readP
  rw [e, a2, b2, c2, a1, b1, c1, if_neg (by decide), if_pos rfl, if_pos rfl, ba_back]
theorem redo_rec {kind : Int} {k : PK} {b : List UInt8} {d : VD} (hkind : kind = 1 ∨ kind = 2) (hk : PkOk k) (hf : k.flow.size ≤ 4096) (hb : b.length ≤ 4096) (hw : whyR d kind k = (0, true)) : redoP (recC kind k b) d = some (doneR kind k b d) := by
  unfold redoP whyR doneR at *
  rcases hkind with rfl | rfl
  · rw [if_pos rfl] at hw ⊢
    have e : recC 1 k b = recPut k b := if_pos rfl
    rw [e, readP_put hk hf hb]
    show (if (whyPut d k).1 = 0 then some (putW k b d) else none) = _
    unfold putW
    rw [hw, if_pos rfl, if_pos rfl]
  · rw [if_neg (by decide)] at hw ⊢
    have e : recC 2 k b = recDrop k.flow k.num := if_neg (by decide)
    rw [e, readP_drop hf hk.num]
    show (if (whyDrop d k.flow k.num).1 = 0 then some (dropW k.flow k.num d) else none) = _
    unfold dropW
    rw [hw, if_pos rfl, if_pos rfl]
/-! ### Under a fuse -/
structure LastS (k : Nat) (rs : List (List UInt8)) (d : VD) (s : JV) : Prop where
  sick : s.sick = false
  fz : Fz s.st vnm (flat rs) (2 * k)
  redo : redoA rs VD.new = some d
  lens : ∀ r ∈ rs, r.length ≤ 8900
  len : rs.length ≤ k
  n : 0 ≤ s.n ∧ s.n ≤ k
  cnt : Cnt d
theorem LastS.mono {k : Nat} {rs : List (List UInt8)} {d : VD} {s : JV} (h : LastS k rs d s) : LastS (k + 1) rs d s :=
  ⟨h.sick, ⟨h.fz.off, h.fz.fuse, ⟨h.fz.deeds.1, by have := h.fz.deeds.2; omega⟩, h.fz.file⟩, h.redo, h.lens, Nat.le_succ_of_le h.len, ⟨h.n.1, by have := h.n.2; omega⟩, h.cnt⟩
theorem flat_lenL {rs : List (List UInt8)} (h : ∀ r ∈ rs, r.length ≤ 8900) : (flat rs).length ≤ 8908 * rs.length := by
  induction rs with
  | nil => simp [flat]
  | cons r rs ih =>
    have e : flat (r :: rs) = frameB r ++ flat rs := by simp [flat]
    have h1 := h r (by simp)
    have h2 := ih fun x hx => h x (by simp [hx])
    rw [e, List.length_append, frame_length, List.length_cons]; omega
theorem last_step {k : Nat} {rs : List (List UInt8)} {d d' : VD} {s : JV} {w : Int × Bool} {rec : List UInt8} (h : LastS k rs d s) (hr : rec.length ≤ 8900) (hk : k ≤ 130) (hw : w.1 ≠ 20) (hredo : w = (0, true) → redoP rec d = some d' ∧ Cnt d') :
    ((actS w rec d' d s).2 ≠ 20 ∧ (actS w rec d' d s).1.1 = (actP w d' d).1 ∧ (actS w rec d' d s).2 = (actP w d' d).2 ∧ ∃ rs', LastS (k + 1) rs' (actS w rec d' d s).1.1 (actS w rec d' d s).1.2) ∨
    ((actS w rec d' d s).2 = 20 ∧ w = (0, true) ∧ ∃ K, (flat rs).length ≤ K ∧ K ≤ (flat rs ++ frameB rec).length ∧ Fd (actS w rec d' d s).1.2.st vnm ((flat rs ++ frameB rec).take K) (2 * k + 2)) := by
  unfold actS actP
  by_cases h1 : w.1 ≠ 0
  · rw [if_pos h1, if_pos h1]; exact .inl ⟨hw, rfl, rfl, rs, h.mono⟩
  · rw [if_neg h1, if_neg h1, if_neg (by rw [h.sick]; exact Bool.false_ne_true)]
    by_cases h2 : w.2 = false
    · rw [if_pos h2, if_pos h2]; exact .inl ⟨(show (0 : Int) ≠ 20 by decide), rfl, rfl, rs, h.mono⟩
    · rw [if_neg h2, if_neg h2]
      have hwe : w = (0, true) := by obtain ⟨a, b⟩ := w; simp at h1 h2; rw [h1, h2]
      obtain ⟨hrd, hcn⟩ := hredo hwe
      have hfl := flat_lenL h.lens
      have hl := h.len
      rcases h.fz.add (b := rec) vnm_ok (by omega) with ⟨st', e, f⟩ | ⟨st', K, e, g1, g2, f⟩
      · rw [e]
        have hn := h.n
        refine .inl ⟨(show (0 : Int) ≠ 20 by decide), by dsimp only; rw [if_pos rfl], rfl, rs ++ [rec], ?_, ?_, ?_, ?_, ?_, ?_, ?_⟩
        · rfl
        · dsimp only; rw [flat_append, Go.Journal.flat_one]
          exact ⟨f.off, f.fuse, ⟨f.deeds.1, by have := f.deeds.2; omega⟩, f.file⟩
        · dsimp only; rw [redoA_snoc, h.redo, if_pos rfl]; exact hrd
        · intro r hx
          rcases List.mem_append.1 hx with hx | hx
          · exact h.lens r hx
          · rw [List.mem_singleton.1 hx]; exact hr
        · rw [List.length_append, List.length_singleton]; omega
        · dsimp only; rw [if_pos rfl]; omega
        · dsimp only; rw [if_pos rfl]; exact hcn
      · rw [e]
        exact .inr ⟨rfl, hwe, K, g1, g2, f⟩
theorem Fz.open0 {st : DSt} {nm : ByteArray} {all : List UInt8} {n : Int} (h : Fz st nm all n) (h0 : st.fuse = 0) (hn : okName nm) : ∃ st', openS nm st = (st', 0) := by
  rcases h.open_ hn with ⟨st', e, _⟩ | ⟨st', e, f⟩
  · exact ⟨st', e⟩
  · exfalso
    unfold openS at e
    rw [if_neg (by rw [h.off]; decide), if_neg (by simpa using hn), h.read] at e
    split at e
    · cases e
    · unfold cutS at e
      rw [if_neg (by rw [h.off]; decide)] at e
      cases hf : st.files nm with
      | none =>
        rw [hf] at e
        have := h.file
        rw [hf] at this
        have h2 : all = [] := (congrArg Prod.fst this).symm
        rename_i hr
        exact hr (by rw [h2, recsB_nil])
      | some v =>
        rw [hf] at e
        dsimp only at e
        split at e
        · rename_i hc
          have hw := congrArg List.length (recsB_whole all)
          rw [List.length_append] at hw
          have hv : v.1 = all := by have := h.file; rw [hf] at this; exact congrArg Prod.fst this
          rw [hv] at hc
          omega
        · rw [deedS_eq, if_neg (by omega)] at e
          cases e
/-- behind the cut: opened again there is what was there, or that and the call -/
theorem last_found {k : Nat} {rs : List (List UInt8)} {d d' : VD} {s : JV} {rec : List UInt8} {K : Nat} {st so : DSt} (h : LastS k rs d s) (hr : rec.length ≤ 8900) (hk : k ≤ 130) (hredo : redoP rec d = some d') (g1 : (flat rs).length ≤ K) (g2 : K ≤ (flat rs ++ frameB rec).length) (hf : Fd st vnm ((flat rs ++ frameB rec).take K) (2 * k + 2)) (hso : so = { st with off := false }) :
    ∃ st' d2, openS vnm so = (st', 0) ∧ redoA (recsB (readS vnm so).1).1 VD.new = some d2 ∧ (d2 = d ∨ d2 = d') ∧ (0 ≤ so.deeds ∧ so.deeds ≤ 2 * k + 2) ∧ (readS vnm so).1.length ≤ 16777216 := by
  have hz : Fz so vnm ((flat rs ++ frameB rec).take K) (2 * k + 2) := by
    rw [hso]; exact ⟨rfl, by show 0 ≤ st.fuse ∧ st.fuse ≤ _; rw [hf.fuse]; decide, hf.deeds, by show (st.files vnm).getD ([], 0) = _; rw [hf.file]; rfl⟩
  have h0 : so.fuse = 0 := by rw [hso]; exact hf.fuse
  obtain ⟨st', ho⟩ := hz.open0 h0 vnm_ok
  have hs : ∀ r ∈ rs, r.length ≤ 1048576 := fun r hr => Nat.le_trans (h.lens r hr) (by decide)
  have hrd := hz.read
  have hfl := flat_lenL h.lens
  have hl := h.len
  have hlen : (readS vnm so).1.length ≤ 16777216 := by
    rw [hrd, List.length_take, List.length_append, frame_length]; omega
  rcases Go.Proofs.YthljpljbpbkkcaaGreatDoor.found hs (Nat.le_trans hr (by decide)) g1 g2 with h7 | h7
  · exact ⟨st', d, ho, by rw [hrd, h7]; exact h.redo, .inl rfl, hz.deeds, hlen⟩
  · exact ⟨st', d', ho, by rw [hrd, h7, redoA_snoc, h.redo]; exact hredo, .inr rfl, hz.deeds, hlen⟩
/-! ### The document's vault, of a known many parts -/
def rvp (r w N : Nat) (d : VD) (p : Nat → Prop) : HProp := fun h => ∃ i : RVI, (RVR N d i ∧ p i.l.length) ∧ star (cel r (rvc i w) 53) (star (row i.lb i.lc 6 57 (fla callC i.l)) (star (row i.fb i.fc 6 57 (fla flC i.fl)) (rows 5 (i.l.map Prod.snd)))) h
theorem rvp_open {w0 ww : World} {A : List HProp} {r w N : Nat} {d : VD} {p : Nat → Prop} (H : Own w0 (rvp r w N d p :: A) ww) :
    ∃ i : RVI, (RVR N d i ∧ p i.l.length) ∧ Own w0 (cel r (rvc i w) 53 :: row i.lb i.lc 6 57 (fla callC i.l) :: row i.fb i.fc 6 57 (fla flC i.fl) :: rows 5 (i.l.map Prod.snd) :: A) ww := by
  obtain ⟨hb, h, ⟨h1, h2, ⟨i, hi, a⟩, a2, dd, y⟩, hw⟩ := H
  have h3 : Own w0 (star (cel r (rvc i w) 53) (star (row i.lb i.lc 6 57 (fla callC i.l)) (star (row i.fb i.fc 6 57 (fla flC i.fl)) (rows 5 (i.l.map Prod.snd)))) :: A) ww := ⟨hb, h, ⟨h1, h2, a, a2, dd, y⟩, hw⟩
  have h4 := h3.star.pk1.star.pk1.star
  exact ⟨i, hi, h4.ix [3, 2, 0, 1]⟩
theorem rvp_mk {w0 ww : World} {A : List HProp} {r w N : Nat} {d : VD} {p : Nat → Prop} {i : RVI} (hi : RVR N d i) (hp : p i.l.length) (H : Own w0 (cel r (rvc i w) 53 :: row i.lb i.lc 6 57 (fla callC i.l) :: row i.fb i.fc 6 57 (fla flC i.fl) :: rows 5 (i.l.map Prod.snd) :: A) ww) : Own w0 (rvp r w N d p :: A) ww := by
  have h1 := (H.ix [2, 3, 0, 1]).intro_star
  have h2 := (h1.ix [2, 0, 1]).intro_star
  have h3 := (h2.ix [1, 0]).intro_star
  exact h3.head fun _ h => ⟨i, ⟨hi, hp⟩, h⟩
theorem ref_done_putp {w0 : World} {A : List HProp} {r w N lc fc : Nat} {lb fb : Option Addr} {l : List (PK × Sla UInt8)} {fl : List (ByteArray × Int)} {d : VD} {k : PK} {b : Sla UInt8} (hi : RVR N d ⟨l, fl, lb, lc, fb, fc⟩) (hk : PkOk k) (hn : d.parts k = none) (hb : b.xs.length ≤ 1048576) (hN : N ≤ 1099511627776) [hRb : Reads w0 A b.base (u8s b.xs)] :
    Fun Tryz.prog w0 21 [.pointer (some ⟨r, 0, none⟩), .agg (vc6 1 k.flow k.num k.kind k.n b).toArray] (cel r [.slice lb l.length lc, .slice fb fl.length fc, .pointer (some ⟨w, 0, none⟩)] 53 :: row lb lc 6 57 (fla callC l) :: row fb fc 6 57 (fla flC fl) :: rows 5 (l.map Prod.snd) :: A) (Ret w0 (fun _ : Unit => True) (fun _ => .tuple #[]) (fun _ => rvp r w (N + 1) (putD d k b.xs) (fun m => m = l.length + 1) :: A)) := by
  have hlen := hi.len
  have hfl := fla_length (f := callC) (l := l) callC_len
  dsimp only at hlen ⊢
  refine Fun.enter Tryz.func21 rfl Tryz.ntmps21 rfl ?_
  refine WC.seq <| WC.region <| bxc (v := .agg _) (cs := [.int _ _, .string _, .int _ _, .int _ _, .int _ _, .slice _ _ _]) rfl rfl fun b1 => WL.nil <| WX.thenN <| WC.seq <| WC.seq <| WC.region <| sv (vfldpz fl57f0 rfl) <| sv (vldc pl3 rfl) <| sv (veq rfl rfl) <| WL.nil <| WX.thenN <| ?_
  refine WC.ite rfl (fun h1 => ?_) (fun h1 => ?_)
  · -- then
    refine WC.seq <| WC.region <| sv (vaS rfl) <| WL.nil <| WX.thenN <| WC.seq <| WC.region <| sv (vmS rfl) <| sv (vfldp fl57f4 rfl) <| sv (vldc pl23 rfl) <| pm (fun _ h => Own.nil_u8 (e := 5) h) <| apb Tryz.underlying23 zt5 rfl rfl rfl rfl reads (by omega) fun base4 c4 hc4 =>?_
    rw [List.nil_append, Nat.zero_add b.xs.length]
    refine sv (vaS rfl) <| WL.nil <| WX.thenN <| WC.seq <| WC.region <| sv (vmS rfl) <| sv (vfldp fl57f4 rfl) <| stp (v := .slice _ _ _) pl23 sz23 rfl rfl rfl <| WL.nil <| WX.thenN <| WC.seq <| WC.plan (.pre [5] (.one [0, 1, 2, 3, 4] 6 (.one [] 7 (.bar [8, 9] 10 (.done []))))) rfl (by kernel_rfl) <| WPl.preC <| dv (fun g => (vldac ag57 sz57 rfl rfl (by decide))) <| WD.nil <| WPl.oneX [row lb lc _ _ _] (by repeat' (first | exact Spl.nil | (apply Spl.cons; focus (first | ((repeat (first | with_reducible exact Tk.here | with_reducible apply Tk.there)); done) | ((repeat (first | exact Tk.here | apply Tk.there)); done))))) (fun g => by infer_instance) ?_
    refine dv (fun g => (vmP rfl)) <| dv (fun g => (vmP rfl)) <| dv (fun g => (vnil rfl)) <| dv (fun g => (vfldpz fl53f0 rfl)) <| dv (fun g => (vldc pl50 rfl)) <| WD.eff rfl <| bslA (v := .agg _) (cs := callC (k, ⟨base4, b.xs, c4⟩)) Tryz.underlying50 zt57 rfl rfl rfl (by decide) (by decide) fun b8 => WL.nil <| WX.br <| WPl.oneX [row lb lc _ _ _] (by repeat' (first | exact Spl.nil | (apply Spl.cons; focus (first | ((repeat (first | with_reducible exact Tk.here | with_reducible apply Tk.there)); done) | ((repeat (first | exact Tk.here | apply Tk.there)); done))))) (fun g => by infer_instance) ?_
    refine WD.eff rfl <| pm (fun _ h => Sb.own (by repeat' (first | with_reducible exact Sb.all | exact Sb.nil | (apply Sb.cons; focus (first | ((repeat (first | with_reducible exact Tk.here | with_reducible apply Tk.there)); done) | ((repeat (first | exact Tk.here | apply Tk.there)); done))) | apply Sb.drop)) h) <| ap (vs := fla callC l) (news := callC (k, ⟨base4, b.xs, c4⟩)) rfl Tryz.underlying50 zt57 rfl rfl rfl (by omega) (rfl) (callC_one _) ((RdC.of_cel (e := 57) (ws := callC (k, ⟨base4, b.xs, c4⟩)) 0 (by simp) (by simp))) (by simp only [maxLen]; omega) (by omega) fun base9 c9 hc9 => ?_
    refine WL.nil <| WX.br <| WPl.barC <| dv (fun g => (vnil rfl)) <| dv (fun g => (vfldpz fl53f0 rfl)) <| WD.eff rfl <| stp (v := .slice _ _ _) pl50 sz50 rfl rfl rfl <| WL.nil <| WX.brT <| WPl.finC <| WD.nil <| WX.thenN <| WC.ret <| WX.thenR <| WX.ret0 rfl (()) (trivial) rfl (fun w h => ?_)
    have h2 := rows_snoc (e := 5) (y := ⟨base4, b.xs, c4⟩) (l := l.map Prod.snd) (Own.sp2 (by repeat' (first | exact Spl.nil | (apply Spl.cons; focus (first | ((repeat (first | with_reducible exact Tk.here | with_reducible apply Tk.there)); done) | ((repeat (first | exact Tk.here | apply Tk.there)); done))))) h)
    refine rvp_mk (i := ⟨l ++ [(k, ⟨base4, b.xs, c4⟩)], fl, base9, c9, fb, fc⟩) (hi.put (s := ⟨base4, b.xs, c4⟩) hk hn ⟨by dsimp only; omega, hb⟩) (by simp) ?_
    dsimp only [rvc]
    rw [fla_snoc, List.map_append, List.length_append]
    exact Sb.own (by repeat' (first | with_reducible exact Sb.all | exact Sb.nil | (apply Sb.cons; focus (first | ((repeat (first | with_reducible exact Tk.here | with_reducible apply Tk.there)); done) | ((repeat (first | exact Tk.here | apply Tk.there)); done))) | apply Sb.drop)) h2
  · -- else
    exact absurd rfl h1
theorem ref_done_p {w0 : World} {A : List HProp} {r w N lc fc : Nat} {lb fb : Option Addr} {l : List (PK × Sla UInt8)} {fl : List (ByteArray × Int)} {d : VD} {kind n pk pn : Int} {f : ByteArray} {b : Sla UInt8} (hi : RVR N d ⟨l, fl, lb, lc, fb, fc⟩) (hkind : kind = 1 ∨ (kind = 2 ∧ pk = 0 ∧ pn = 0 ∧ b = ⟨none, [], 0⟩)) (hw : kind = 1 → d.parts ⟨f, n, pk, pn⟩ = none) (hk : PkOk ⟨f, n, pk, pn⟩) (hb : b.xs.length ≤ 1048576) (hN : N ≤ 1099511627776) [hRb : Reads w0 A b.base (u8s b.xs)] :
    Fun Tryz.prog w0 21 [.pointer (some ⟨r, 0, none⟩), .agg (vc6 kind f n pk pn b).toArray] (cel r [.slice lb l.length lc, .slice fb fl.length fc, .pointer (some ⟨w, 0, none⟩)] 53 :: row lb lc 6 57 (fla callC l) :: row fb fc 6 57 (fla flC fl) :: rows 5 (l.map Prod.snd) :: A) (Ret w0 (fun _ : Unit => True) (fun _ => .tuple #[]) (fun _ => rvp r w (N + 1) (doneR kind ⟨f, n, pk, pn⟩ b.xs d) (fun m => kind = 1 → m = l.length + 1) :: A)) := by
  unfold doneR
  rcases hkind with rfl | ⟨rfl, rfl, rfl, rfl⟩
  · rw [if_pos rfl]
    refine (ref_done_putp (k := ⟨f, n, pk, pn⟩) hi hk (hw rfl) hb hN).mono fun e w ⟨i, h1, he, hO⟩ => ⟨i, h1, he, hO.head fun _ ⟨i, hi, h⟩ => ⟨i, ⟨hi.1, fun _ => hi.2⟩, h⟩⟩
  · rw [if_neg (by decide)]
    refine ((ref_done_drop (A := A) (r := r) (w := w) (N := N) (d := d) (f := f) (n := n) hk.flow hN).perm fun w h => rv_mk (i := ⟨l, fl, lb, lc, fb, fc⟩) hi h).mono fun e w ⟨i, h1, he, hO⟩ => ⟨i, h1, he, hO.head fun _ ⟨i, hi, h⟩ => ⟨i, ⟨hi, fun h => absurd h (by decide)⟩, h⟩⟩
theorem whyR_ne {d : VD} {kind : Int} {k : PK} : (whyR d kind k).1 ≠ 20 := by
  unfold whyR whyPut whyDrop
  split
  · split
    · decide
    · split
      · decide
      · split
        · decide
        · show (0 : Int) ≠ 20; decide
  · split
    · decide
    · split
      · decide
      · show (0 : Int) ≠ 20; decide
structure LsI where
  k : Nat
  N : Nat
  M : Nat
  rs : List (List UInt8)
  d : VD
  s : JV
  s2 : JV
structure LsR (m : Nat) (i : LsI) : Prop where
  k : i.k ≤ m
  N : i.N ≤ i.k
  M : i.M ≤ i.k
  l : LastS i.k i.rs i.d i.s
  c : Vc i.s2 i.k
theorem law_lasts16 {w0 : World} {A : List HProp} {o : Sla AV} {n keep : Int} (ho : Rd w0 o.base (o.xs.flatMap cellV)) (hx : ∀ a ∈ o.xs, gV w0 a) (hn : n ≤ 9223372036854775807) :
    Fun Tryz.prog w0 4 [.slice o.base o.xs.length o.cap, .int .i64 n, .int .i64 keep] A (Ret w0 (fun _ : Unit => True) (fun _ => .bool true) (fun _ => A)) := by
  have hfl : (o.xs.flatMap cellV).length = o.xs.length * 7 := flat_len (fun _ _ => rfl)
  refine Fun.enter Tryz.func4 rfl Tryz.ntmps4 rfl ?_
  refine WC.seq <| WC.region <| sv (vaB rfl) <| WL.nil <| WX.thenN <| WC.seq <| WC.seq <| WC.region <| sv (vmS rfl) <| clx (by repeat' (first | with_reducible exact Sb.all | exact Sb.nil | (apply Sb.cons; focus (first | ((repeat (first | with_reducible exact Tk.here | with_reducible apply Tk.there)); done) | ((repeat (first | exact Tk.here | apply Tk.there)); done))) | apply Sb.drop)) (law_small ho) ct14 rfl fun r1 hr1 => ?_
  refine sv (vnot rfl) <| WL.nil <| WX.thenN <| ?_
  refine WC.iteb rfl (fun h1 => ?_) (fun h1 => ?_)
  · -- then
    exact WC.seq <| WC.region <| sv (vaB rfl) <| WL.nil <| WX.thenN <| WC.ret <| WX.thenR <| WX.ret1 rfl (()) (trivial) rfl (fun _ h => Sb.own (by repeat' (first | with_reducible exact Sb.all | exact Sb.nil | (apply Sb.cons; focus (first | ((repeat (first | with_reducible exact Tk.here | with_reducible apply Tk.there)); done) | ((repeat (first | exact Tk.here | apply Tk.there)); done))) | apply Sb.drop)) h)
  · -- else
    have hsm : o.xs.length ≤ 120 ∧ ∀ a ∈ o.xs, a.b.xs.length ≤ 256 ∧ a.k.flow.size ≤ 64 := by simpa using h1
    refine WC.skip <| WX.thenN <| WC.seq <| WC.region <| clx (by repeat' (first | with_reducible exact Sb.all | exact Sb.nil | (apply Sb.cons; focus (first | ((repeat (first | with_reducible exact Tk.here | with_reducible apply Tk.there)); done) | ((repeat (first | exact Tk.here | apply Tk.there)); done))) | apply Sb.drop)) (disk_new) ct6 rfl fun r2 hr2 => ?_
    refine sv (vaP rfl) <| WL.nil <| WX.thenN <| WC.seq <| WC.region <| sv (vmP rfl) <| clx (by repeat' (first | with_reducible exact Sb.all | exact Sb.nil | (apply Sb.cons; focus (first | ((repeat (first | with_reducible exact Tk.here | with_reducible apply Tk.there)); done) | ((repeat (first | exact Tk.here | apply Tk.there)); done))) | apply Sb.drop)) (v_open_some (d := VD.new) (st := newD) (by decide) vopen_new (by rw [vrecs_new]; rfl) (by decide)) ct10 rfl fun r3 hr3 => ?_
    refine sv vmv <| sv (vex rfl rfl) <| sv (vex rfl rfl) <| sv (vaP rfl) <| sv (vaI rfl) <| WL.nil <| WX.thenN <| WC.seq <| ?_
    refine WC.cutS [(34, .bool false)] [(0, .slice _ _ _), (1, .int _ _), (2, .int _ _), (7, .pointer _), (8, .pointer _)] ⟨rfl, rfl, rfl, rfl, rfl, trivial⟩ ?_ fun ρh => ?_
    · -- law.go:240
      exact WC.region <| sv (vmP rfl) <| sv (vpeqF Tryz.underlying33 rfl rfl) <| sv (vmB rfl) <| svg rfl (vmI rfl) <| svg rfl (vne rfl rfl) <| sv (vpkf rfl) <| WL.nil <| WX.mid () trivial ⟨rfl, trivial⟩ ⟨rfl, rfl, rfl, rfl, rfl, trivial⟩ (fun _ h => Sb.own (by repeat' (first | with_reducible exact Sb.all | exact Sb.nil | (apply Sb.cons; focus (first | ((repeat (first | with_reducible exact Tk.here | with_reducible apply Tk.there)); done) | ((repeat (first | exact Tk.here | apply Tk.there)); done))) | apply Sb.drop)) h)
    refine WC.ff rfl ?_
    refine WC.skip <| WX.thenN <| WC.seq <| WC.region <| sv (vmP rfl) <| sv (vmI rfl) <| sv (vmI rfl) <| clx (by repeat' (first | with_reducible exact Sb.all | exact Sb.nil | (apply Sb.cons; focus (first | ((repeat (first | with_reducible exact Tk.here | with_reducible apply Tk.there)); done) | ((repeat (first | exact Tk.here | apply Tk.there)); done))) | apply Sb.drop)) (disk_arm (st := newD) hn) ct15 rfl fun r5 hr5 => ?_
    refine WL.nil <| WX.thenN <| WC.seq <| WC.region <| sv (vbd (ps := []) (cs := [_, _, _, _, _]) bt29 zt29 rfl (by rfl)) <| bxc (v := .agg _) (cs := [.slice _ _ _, .bool _, .int _ _, .int _ _, .int _ _]) rfl rfl fun b7 => pm (fun _ h => (show Own w0 (rdisk b7 0 newD :: pdisk r2 { newD with fuse := max n 0, keep := keep } :: pv r3.1 r3.2 false VD.new :: cel r3.2 (jcells r2 vnm (recsB (readS vnm newD).1).1.length false) 112 :: A) _ from by have h2 := rdisk_new16 (Own.sp1 (by repeat' (first | exact Spl.nil | (apply Spl.cons; focus (first | ((repeat (first | with_reducible exact Tk.here | with_reducible apply Tk.there)); done) | ((repeat (first | exact Tk.here | apply Tk.there)); done))))) h); exact Sb.own (by repeat' (first | with_reducible exact Sb.all | exact Sb.nil | (apply Sb.cons; focus (first | ((repeat (first | with_reducible exact Tk.here | with_reducible apply Tk.there)); done) | ((repeat (first | exact Tk.here | apply Tk.there)); done))) | apply Sb.drop)) h2)) <| clx (by repeat' (first | with_reducible exact Sb.all | exact Sb.nil | (apply Sb.cons; focus (first | ((repeat (first | with_reducible exact Tk.here | with_reducible apply Tk.there)); done) | ((repeat (first | exact Tk.here | apply Tk.there)); done))) | apply Sb.drop)) (ref_open_some16 (d := VD.new) (st := newD) (by decide) (by decide) vopen_new (by rw [vrecs_new]; rfl) (by decide)) ct11 rfl fun r8 hr8 => ?_
    refine sv vmv <| sv (vex rfl rfl) <| sv (vex rfl rfl) <| sv (vaP rfl) <| sv (vaI rfl) <| WL.nil <| WX.thenN <| WC.seq <| WC.seq <| WC.region <| sv (vaI rfl) <| WL.nil <| WX.thenN <| WC.block <| ?_
    refine WC.loop (ι := LsI) (fun i => [(12, .int .i64 i.k)]) [(0, .slice _ _ _), (7, .pointer _), (8, .pointer _), (10, .pointer _)] (fun i => vall r3.1 r3.2 r2 i.d i.s (rv r8.1 r8.2 i.N i.d :: cel r8.2 (wcells b7 vnm i.s2.n i.s2.sick) 100 :: rdisk b7 i.M i.s2.st :: A)) (fun i => LsR o.xs.length i) (fun i => o.xs.length - i.k) (⟨0, 0, 0, [], VD.new, ⟨{ newD with fuse := max n 0, keep := keep }, 0, false⟩, ⟨newD, 0, false⟩⟩) (⟨Nat.zero_le _, Nat.le_refl _, Nat.le_refl _, ⟨rfl, ⟨rfl, by dsimp only; omega, by simp [newD], rfl⟩, rfl, fun r hr => (by cases hr), Nat.le_refl _, by simp, cnt_new⟩, Vc.new⟩) ⟨rfl, trivial⟩ ⟨rfl, rfl, rfl, rfl, trivial⟩ (fun w h => by rw [vrecs_new] at h; exact Sb.own (by repeat' (first | with_reducible exact Sb.all | exact Sb.nil | (apply Sb.cons; focus (first | ((repeat (first | with_reducible exact Tk.here | with_reducible apply Tk.there)); done) | ((repeat (first | exact Tk.here | apply Tk.there)); done))) | apply Sb.drop)) h) ?_
    rintro ⟨k, N, M, rs, d, s, s2⟩ ⟨v1, v2, v3, v4, v5⟩ ρh
    have v6 := v4.cnt
    have v7 := v4.fz.deeds
    have v8 := v4.n
    have v9 := v5.deeds (by omega)
    dsimp only at v1 v2 v3 v4 v5 v6 v7 v8 v9 ⊢
    refine WC.seq <| WC.seq <| WC.region <| sv (vmI rfl) <| sv (vmS rfl) <| sv (vlen Tryz.underlying42 rfl) <| sv (vlt rfl rfl) <| WL.nil <| WX.thenN <| ?_
    refine WC.ite rfl (fun h3 => ?_) (fun h3 => ?_)
    · -- then
      have hil : k < o.xs.length := by omega
      obtain ⟨a, ha⟩ : ∃ a, o.xs[k]? = some a := ⟨_, List.getElem?_eq_getElem hil⟩
      have hag : gV w0 a := hx a (List.mem_of_getElem? ha)
      have hal := hsm.2 a (List.mem_of_getElem? ha)
      have hpos : 0 < (o.xs.flatMap cellV).length := by omega
      have hac : ((o.xs.flatMap cellV).drop (((k : Int)).toNat * 7)).take 7 = cellV a := by rw [Int.toNat_natCast, flat_take (f := cellV) (s := 7) (fun _ _ => rfl) hil, (List.getElem?_eq_some_iff.1 ha).2]
      obtain ⟨ki, an, aq, af, ⟨ap, am, u1⟩, ab, u2⟩ := a
      dsimp only [AV.k, AV.b, gV] at hag hal
      obtain ⟨hpk, hrd⟩ := hag
      refine WC.skip <| WX.thenN <| WC.seq <| WC.block <| WC.seq <| WC.region <| sv (vmS rfl) <| sv (vmI rfl) <| sv (vix Tryz.underlying42 sz48 rfl rfl (by omega) (by omega) (RdC.old ho) hpos) <| sv (vlda ag48 sz48 rfl (RdC.old ho) hac rfl (by decide)) <| alz (cs := [.int .i64 0, .int .i64 0, .int .i64 0, .string ByteArray.empty, .int .i64 0, .int .i64 0, .slice none 0 0]) zt48 (by rfl) fun b11 => stAp sz48 rfl rfl rfl (by intro v hv; simp only [List.mem_cons, List.not_mem_nil, or_false] at hv; rcases hv with rfl | rfl | rfl | rfl | rfl | rfl | rfl <;> rfl) rfl <| WL.nil <| WX.thenN <| WC.seq <| ?_
      refine WC.cutS [(62, .bool (decide (¬ (ki = 1 ∨ ki = 2))))] [(0, .slice _ _ _), (7, .pointer _), (8, .pointer _), (10, .pointer _), (12, .int _ _), (13, _)] ⟨rfl, rfl, rfl, rfl, rfl, rfl, trivial⟩ ?_ fun ρh => ?_
      · -- law.go:247
        refine WC.region <| sv (vfldpz fl48f0 rfl) <| sv (vldc pl3 rfl) <| svs (vne rfl rfl) (fun q1 => ?_) (fun q1 => ?_)
        ·
          exact sv (vmB rfl) <| svg rfl (vfldpz fl48f0 rfl) <| svg rfl (vldc pl3 rfl) <| svg rfl (vne rfl rfl) <| sv (vpkt rfl) <| WL.nil <| WX.mid () trivial ⟨bI (E := ¬ (ki = 1 ∨ ki = 2)) ⟨fun h => by rintro (h2 | h2); exact q1 h2; exact h h2, fun h h2 => h (.inr h2)⟩, trivial⟩ ⟨rfl, rfl, rfl, rfl, rfl, rfl, trivial⟩ (fun _ h => Sb.own (by repeat' (first | with_reducible exact Sb.all | exact Sb.nil | (apply Sb.cons; focus (first | ((repeat (first | with_reducible exact Tk.here | with_reducible apply Tk.there)); done) | ((repeat (first | exact Tk.here | apply Tk.there)); done))) | apply Sb.drop)) h)
        ·
          exact sv (vmB rfl) <| sng rfl <| sng rfl <| sng rfl <| sv (vpkf rfl) <| WL.nil <| WX.mid () trivial ⟨bF (E := ¬ (ki = 1 ∨ ki = 2)) (fun h => h (.inl (Decidable.not_not.1 q1))), trivial⟩ ⟨rfl, rfl, rfl, rfl, rfl, rfl, trivial⟩ (fun _ h => Sb.own (by repeat' (first | with_reducible exact Sb.all | exact Sb.nil | (apply Sb.cons; focus (first | ((repeat (first | with_reducible exact Tk.here | with_reducible apply Tk.there)); done) | ((repeat (first | exact Tk.here | apply Tk.there)); done))) | apply Sb.drop)) h)
      refine WC.ite rfl (fun h4 => ?_) (fun h4 => ?_)
      · -- then
        exact WC.exit <| WX.thenE <| WX.blockH <| WX.thenN <| WC.region <| sv (vmI rfl) <| sv (vadd rfl rfl (by omega)) <| sv (vaI rfl) <| WL.nil <| WX.again (⟨k + 1, N, M, rs, d, s, s2⟩) (⟨by dsimp only; omega, by dsimp only; omega, by dsimp only; omega, v4.mono, v5.mono (Nat.le_succ _)⟩) (by dsimp only; omega) ⟨rfl, trivial⟩ ⟨rfl, rfl, rfl, rfl, trivial⟩ (fun _ h => Sb.own (by repeat' (first | with_reducible exact Sb.all | exact Sb.nil | (apply Sb.cons; focus (first | ((repeat (first | with_reducible exact Tk.here | with_reducible apply Tk.there)); done) | ((repeat (first | exact Tk.here | apply Tk.there)); done))) | apply Sb.drop)) h)
      · -- else
        have hk12 : ki = 1 ∨ ki = 2 := Decidable.not_not.1 h4
        have hcs := callS_of (k := ⟨af, an, ap, am⟩) (b := ab) (d := d) (s := s) hk12
        obtain ⟨P, hP⟩ : ∃ P, P = callL ki ⟨af, an, ap, am⟩ ab.xs d s := ⟨_, rfl⟩
        have hko := ofk_ok (kind := ki) hpk
        have hof : (ofk ki ⟨af, an, ap, am⟩).flow.size ≤ 4096 := by rw [ofk_flow]; show af.size ≤ 4096; omega
        have hob : (ofb ki ab).xs.length ≤ 4096 := ofb_len (by omega)
        obtain ⟨w, hw⟩ : ∃ w, w = whyR d ki (ofk ki ⟨af, an, ap, am⟩) := ⟨_, rfl⟩
        obtain ⟨rec, hrec⟩ : ∃ r, r = recC ki (ofk ki ⟨af, an, ap, am⟩) (ofb ki ab).xs := ⟨_, rfl⟩
        obtain ⟨d', hd'⟩ : ∃ x, x = doneR ki (ofk ki ⟨af, an, ap, am⟩) (ofb ki ab).xs d := ⟨_, rfl⟩
        have hPa : P = actS w rec d' d s := by rw [hP, ← hcs, hw, hrec, hd']; rfl
        have hrl : rec.length ≤ 8900 := by rw [hrec]; exact recC_len hk12 hko hof hob
        have hwn : w.1 ≠ 20 := by rw [hw]; exact whyR_ne
        have hrd2 : w = (0, true) → redoP rec d = some d' ∧ Cnt d' := fun h => by
          have h2 := redo_rec hk12 hko hof hob (hw.symm.trans h)
          rw [← hrec, ← hd'] at h2
          exact ⟨h2, cnt_redo v6 h2⟩
        have hst := last_step v4 hrl (by omega) hwn hrd2
        rw [← hPa] at hst
        obtain ⟨s2', hca, hvc⟩ := v5.act (w := w) (d' := d') (d := d) (rec := rec) hrl (by omega)
        refine WC.skip <| WX.thenN <| WC.seq <| WC.region <| sv (vmP rfl) <| sv (vldac ag48 sz48 rfl rfl (by decide)) <| clx (by repeat' (first | with_reducible exact Sb.all | exact Sb.nil | (apply Sb.cons; focus (first | ((repeat (first | with_reducible exact Tk.here | with_reducible apply Tk.there)); done) | ((repeat (first | exact Tk.here | apply Tk.there)); done))) | apply Sb.drop)) (law_callg (d := d) (s := s) hpk (by omega) (by omega) (by omega) (by omega) (RdC.old hrd)) ct16 rfl fun r16 hr16 => ?_
        rw [← hP]
        refine sv (vaI rfl) <| WL.nil <| WX.thenN <| WC.seq <| WC.seq <| WC.region <| sv (vmI rfl) <| sv (veq rfl rfl) <| WL.nil <| WX.thenN <| ?_
        refine WC.ite rfl (fun h5 => ?_) (fun h5 => ?_)
        · -- then
          obtain ⟨_, hw0, K, g1, g2, hfd⟩ := hst.resolve_left fun h => h.1 h5
          obtain ⟨hrp, hcd⟩ := hrd2 hw0
          obtain ⟨so, hso⟩ : ∃ x : DSt, x = { P.1.2.st with off := false } := ⟨_, rfl⟩
          obtain ⟨st', e2, hop, hro, hor, hsd, hfile⟩ := last_found v4 hrl (by omega) hrp g1 g2 hfd hso
          have hce : Cnt e2 := by rcases hor with rfl | rfl; exact v6; exact hcd
          refine WC.seq <| WC.region <| sv (vmP rfl) <| clx (by repeat' (first | with_reducible exact Sb.all | exact Sb.nil | (apply Sb.cons; focus (first | ((repeat (first | with_reducible exact Tk.here | with_reducible apply Tk.there)); done) | ((repeat (first | exact Tk.here | apply Tk.there)); done))) | apply Sb.drop)) (disk_on) ct17 rfl fun r17 hr17 => ?_
          rw [← hso]
          refine WL.nil <| WX.thenN <| WC.seq <| WC.region <| sv (vmP rfl) <| clx (by repeat' (first | with_reducible exact Sb.all | exact Sb.nil | (apply Sb.cons; focus (first | ((repeat (first | with_reducible exact Tk.here | with_reducible apply Tk.there)); done) | ((repeat (first | exact Tk.here | apply Tk.there)); done))) | apply Sb.drop)) (v_open_some (d := e2) (st := so) (by omega) hop hro hfile) ct10 rfl fun r18 hr18 => ?_
          refine sv vmv <| sv (vex rfl rfl) <| sv (vex rfl rfl) <| sv (vaP rfl) <| sv (vaI rfl) <| WL.nil <| WX.thenN <| WC.seq <| ?_
          refine WC.cutS [(80, .bool false)] [(10, .pointer _), (13, _), (15, .pointer _)] ⟨rfl, rfl, rfl, trivial⟩ ?_ fun ρh => ?_
          · -- law.go:254
            exact WC.region <| sv (vmP rfl) <| sv (vpeqF Tryz.underlying33 rfl rfl) <| sv (vmB rfl) <| svg rfl (vmI rfl) <| svg rfl (vne rfl rfl) <| sv (vpkf rfl) <| WL.nil <| WX.mid () trivial ⟨rfl, trivial⟩ ⟨rfl, rfl, rfl, trivial⟩ (fun _ h => Sb.own (by repeat' (first | with_reducible exact Sb.all | exact Sb.nil | (apply Sb.cons; focus (first | ((repeat (first | with_reducible exact Tk.here | with_reducible apply Tk.there)); done) | ((repeat (first | exact Tk.here | apply Tk.there)); done))) | apply Sb.drop)) h)
          refine WC.ff rfl ?_
          refine WC.ex (fun w h => rv_open (Own.sp1 (X1 := rv r8.1 r8.2 N d) (by repeat' (first | exact Spl.nil | (apply Spl.cons; focus (first | ((repeat (first | with_reducible exact Tk.here | with_reducible apply Tk.there)); done) | ((repeat (first | exact Tk.here | apply Tk.there)); done))))) h)) ?_
          rintro ⟨l, fl, lb, lc, fb, fc⟩ hi
          have hlen := hi.len
          dsimp only [rvc] at hlen ⊢
          refine WC.skip <| WX.thenN <| WC.seq <| WC.region <| sv (vmP rfl) <| sv (vnil rfl) <| sv (vfldpz fl53f0 rfl) <| sv (vldc pl50 rfl) <| sv (vlen Tryz.underlying50 rfl) <| sv (vaI rfl) <| WL.nil <| WX.thenN <| WC.seq <| WC.region <| sv (vmP rfl) <| sv (vldac ag48 sz48 rfl rfl (by decide)) <| clx (by repeat' (first | with_reducible exact Sb.all | exact Sb.nil | (apply Sb.cons; focus (first | ((repeat (first | with_reducible exact Tk.here | with_reducible apply Tk.there)); done) | ((repeat (first | exact Tk.here | apply Tk.there)); done))) | apply Sb.drop)) (law_of) ct19 rfl fun r22 hr22 => ?_
          refine clx (by repeat' (first | with_reducible exact Sb.all | exact Sb.nil | (apply Sb.cons; focus (first | ((repeat (first | with_reducible exact Tk.here | with_reducible apply Tk.there)); done) | ((repeat (first | exact Tk.here | apply Tk.there)); done))) | apply Sb.drop)) (ref_why (f := af) (l := l) (fl := fl) hi (by omega) hk12 (by omega)) ct18 rfl fun r23 hr23 => ?_
          rw [ofk_mk, ← hw, hw0]
          refine sv vmv <| sv (vex rfl rfl) <| sv (vex rfl rfl) <| sv (vaI rfl) <| sv (vaB rfl) <| WL.nil <| WX.thenN <| WC.seq <| WC.seq <| WC.region <| sv (vmB rfl) <| sv (vnot rfl) <| WL.nil <| WX.thenN <| ?_
          refine WC.ff rfl ?_
          refine WC.skip <| WX.thenN <| WC.seq <| ?_
          refine WC.cutvS (ι := Bool) (fun q => [(108, .bool q)]) [(10, .pointer _), (13, _), (15, .pointer _), (17, .int _ _)] (fun q => e2 = d → q = true) ⟨rfl, rfl, rfl, rfl, trivial⟩ ?_ ?_
          · -- law.go:262
            refine WC.region <| sv (vmP rfl) <| sv (vmP rfl) <| clx (by repeat' (first | with_reducible exact Sb.all | exact Sb.nil | (apply Sb.cons; focus (first | ((repeat (first | with_reducible exact Tk.here | with_reducible apply Tk.there)); done) | ((repeat (first | exact Tk.here | apply Tk.there)); done))) | apply Sb.drop)) (law_is (l := l) (fl := fl) hce hi (by omega) (fun x hx => RdC.of_rows (e := 5) (l := l.map Prod.snd) (by simp) (List.mem_map.2 ⟨x, hx, rfl⟩))) ct13 rfl fun r24 hr24 => ?_
            refine svb (vmB rfl) (fun q2 => ?_) (fun q2 => ?_)
            ·
              refine svg rfl (vfldpz fl48f0 rfl) <| svg rfl (vldc pl3 rfl) <| svsg rfl (veq rfl rfl) (fun q3 => ?_) (fun q3 => ?_)
              ·
                exact svg rfl (vmB rfl) <| sng rfl <| sng rfl <| sng rfl <| sng rfl <| svg rfl (vpkt rfl) <| sv (vpkt rfl) <| WL.nil <| WX.mid (true) (fun _ => rfl) ⟨rfl, trivial⟩ ⟨rfl, rfl, rfl, rfl, trivial⟩ (fun _ h => Sb.own (by repeat' (first | with_reducible exact Sb.all | exact Sb.nil | (apply Sb.cons; focus (first | ((repeat (first | with_reducible exact Tk.here | with_reducible apply Tk.there)); done) | ((repeat (first | exact Tk.here | apply Tk.there)); done))) | apply Sb.drop)) h)
              ·
                refine svg rfl (vmB rfl) <| svg rfl (vmP rfl) <| svg rfl (vldac ag48 sz48 rfl rfl (by decide)) <| gy rfl <| clx (by repeat' (first | with_reducible exact Sb.all | exact Sb.nil | (apply Sb.cons; focus (first | ((repeat (first | with_reducible exact Tk.here | with_reducible apply Tk.there)); done) | ((repeat (first | exact Tk.here | apply Tk.there)); done))) | apply Sb.drop)) (law_there hpk) ct20 rfl fun r27 hr27 => ?_
                exact svg rfl (vnot rfl) <| svg rfl (vpkf rfl) <| sv (vpkt rfl) <| WL.nil <| WX.mid (!(e2.parts ⟨af, an, ap, am⟩).isSome) (fun he => by have hk1 : ki = 1 := hk12.resolve_right q3; have h9 : whyPut d ⟨af, an, ap, am⟩ = (0, true) := by { rw [← hw0, hw]; unfold whyR ofk; rw [if_pos hk1, if_pos hk1] }; rw [he, whyPut_none (by rw [h9])]; rfl) ⟨rfl, trivial⟩ ⟨rfl, rfl, rfl, rfl, trivial⟩ (fun _ h => Sb.own (by repeat' (first | with_reducible exact Sb.all | exact Sb.nil | (apply Sb.cons; focus (first | ((repeat (first | with_reducible exact Tk.here | with_reducible apply Tk.there)); done) | ((repeat (first | exact Tk.here | apply Tk.there)); done))) | apply Sb.drop)) h)
            ·
              exact sng rfl <| sng rfl <| sng rfl <| sng rfl <| sng rfl <| sng rfl <| sng rfl <| sng rfl <| sng rfl <| sv (vpkf rfl) <| WL.nil <| WX.mid (false) (fun he => by rw [hr24 he] at q2; cases q2) ⟨rfl, trivial⟩ ⟨rfl, rfl, rfl, rfl, trivial⟩ (fun _ h => Sb.own (by repeat' (first | with_reducible exact Sb.all | exact Sb.nil | (apply Sb.cons; focus (first | ((repeat (first | with_reducible exact Tk.here | with_reducible apply Tk.there)); done) | ((repeat (first | exact Tk.here | apply Tk.there)); done))) | apply Sb.drop)) h)
          intro q hq ρh
          refine WC.iteb rfl (fun h8 => ?_) (fun h8 => ?_)
          · -- then
            refine WC.seq <| WC.region <| clx (by repeat' (first | with_reducible exact Sb.all | exact Sb.nil | (apply Sb.cons; focus (first | ((repeat (first | with_reducible exact Tk.here | with_reducible apply Tk.there)); done) | ((repeat (first | exact Tk.here | apply Tk.there)); done))) | apply Sb.drop)) (law_awake) ct12 rfl fun r28 hr28 => ?_
            exact sv (vaB rfl) <| WL.nil <| WX.thenN <| WC.ret <| WX.thenR <| WX.thenR <| WX.blockR <| WX.thenR <| WX.thenR <| WX.blockR <| WX.thenR <| WX.ret1 rfl (()) (trivial) rfl (fun _ h => Sb.own (by repeat' (first | with_reducible exact Sb.all | exact Sb.nil | (apply Sb.cons; focus (first | ((repeat (first | with_reducible exact Tk.here | with_reducible apply Tk.there)); done) | ((repeat (first | exact Tk.here | apply Tk.there)); done))) | apply Sb.drop)) h)
          · -- else
            have hed : e2 = d' := hor.resolve_left fun h => by rw [hq h] at h8; cases h8
            refine WC.skip <| WX.thenN <| WC.seq <| WC.region <| sv (vmP rfl) <| sv (vldac ag48 sz48 rfl rfl (by decide)) <| clx (by repeat' (first | with_reducible exact Sb.all | exact Sb.nil | (apply Sb.cons; focus (first | ((repeat (first | with_reducible exact Tk.here | with_reducible apply Tk.there)); done) | ((repeat (first | exact Tk.here | apply Tk.there)); done))) | apply Sb.drop)) (law_of) ct19 rfl fun r30 hr30 => ?_
            refine clx (by repeat' (first | with_reducible exact Sb.all | exact Sb.nil | (apply Sb.cons; focus (first | ((repeat (first | with_reducible exact Tk.here | with_reducible apply Tk.there)); done) | ((repeat (first | exact Tk.here | apply Tk.there)); done))) | apply Sb.drop)) (ref_done_p (f := af) (n := an) (pk := (ofk ki ⟨af, an, ap, am⟩).kind) (pn := (ofk ki ⟨af, an, ap, am⟩).n) (b := ofb ki ab) (hRb := ⟨ofb_rd (RdC.old hrd)⟩) hi (ofk_kind hk12) (fun hk1 => by rw [ofk_mk]; exact whyPut_none (by have h9 : whyPut d (ofk ki ⟨af, an, ap, am⟩) = (0, true) := by { rw [← hw0, hw]; unfold whyR; rw [if_pos hk1] }; rw [h9])) (by rw [ofk_mk]; exact hko) (ofb_len (by omega)) (by omega)) ct21 rfl fun r31 hr31 => ?_
            rw [ofk_mk, ← hd']
            refine WL.ex (fun w h => rvp_open (Own.sp1 (X1 := rvp r8.1 r8.2 (N + 1) d' (fun m => ki = 1 → m = l.length + 1)) (by repeat' (first | exact Spl.nil | (apply Spl.cons; focus (first | ((repeat (first | with_reducible exact Tk.here | with_reducible apply Tk.there)); done) | ((repeat (first | exact Tk.here | apply Tk.there)); done))))) h)) ?_
            rintro ⟨l2, fl2, lb2, lc2, fb2, fc2⟩ ⟨hi2, hl2⟩
            have hlen2 := hi2.len
            dsimp only [rvc] at hl2 hlen2 ⊢
            refine WL.nil <| WX.thenN <| ?_
            refine WC.cut0 [(6, .bool true)] [] (A) trivial ?_ fun ρh => ?_
            · -- law.go:266
              refine WC.region <| clx (by repeat' (first | with_reducible exact Sb.all | exact Sb.nil | (apply Sb.cons; focus (first | ((repeat (first | with_reducible exact Tk.here | with_reducible apply Tk.there)); done) | ((repeat (first | exact Tk.here | apply Tk.there)); done))) | apply Sb.drop)) (law_awake) ct12 rfl fun r32 hr32 => ?_
              refine sv (vmB rfl) <| svg rfl (vmP rfl) <| svg rfl (vmP rfl) <| gy rfl <| clx (by repeat' (first | with_reducible exact Sb.all | exact Sb.nil | (apply Sb.cons; focus (first | ((repeat (first | with_reducible exact Tk.here | with_reducible apply Tk.there)); done) | ((repeat (first | exact Tk.here | apply Tk.there)); done))) | apply Sb.drop)) (law_is (l := l2) (fl := fl2) hce hi2 (by omega) (fun x hx => RdC.of_rows (e := 5) (l := l2.map Prod.snd) (by simp) (List.mem_map.2 ⟨x, hx, rfl⟩))) ct13 rfl fun r33 hr33 => ?_
              have e33 := hr33 hed
              subst e33
              refine sv (vpkt rfl) <| sv (vmB rfl) <| svg rfl (vfldpz fl48f0 rfl) <| svg rfl (vldc pl3 rfl) <| svsg rfl (veq rfl rfl) (fun q4 => ?_) (fun q4 => ?_)
              ·
                exact svg rfl (vmB rfl) <| sng rfl <| sng rfl <| sng rfl <| sng rfl <| sng rfl <| sng rfl <| sng rfl <| sng rfl <| svg rfl (vpkt rfl) <| sv (vpkt rfl) <| sv (vaB rfl) <| WL.nil <| WX.mid () trivial ⟨rfl, trivial⟩ trivial (fun _ h => Sb.own (by repeat' (first | with_reducible exact Sb.all | exact Sb.nil | (apply Sb.cons; focus (first | ((repeat (first | with_reducible exact Tk.here | with_reducible apply Tk.there)); done) | ((repeat (first | exact Tk.here | apply Tk.there)); done))) | apply Sb.drop)) h)
              ·
                exact svg rfl (vmB rfl) <| svg rfl (vmP rfl) <| svg rfl (vnil rfl) <| svg rfl (vfldpz fl53f0 rfl) <| svg rfl (vldc pl50 rfl) <| svg rfl (vlen Tryz.underlying50 rfl) <| svg rfl (vmI rfl) <| svg rfl (vadd rfl rfl (by omega)) <| svg rfl (veq rfl rfl) <| svg rfl (vpkf rfl) <| sv (vpkt rfl) <| sv (vaB rfl) <| WL.nil <| WX.mid () trivial ⟨(bT (show ((l2.length : Nat) : Int) = (l.length : Int) + 1 by rw [hl2 (hk12.resolve_right (by assumption))]; rfl)).symm, trivial⟩ trivial (fun _ h => Sb.own (by repeat' (first | with_reducible exact Sb.all | exact Sb.nil | (apply Sb.cons; focus (first | ((repeat (first | with_reducible exact Tk.here | with_reducible apply Tk.there)); done) | ((repeat (first | exact Tk.here | apply Tk.there)); done))) | apply Sb.drop)) h)
            exact WC.ret <| WX.thenR <| WX.blockR <| WX.thenR <| WX.thenR <| WX.blockR <| WX.thenR <| WX.ret1 rfl (()) (trivial) rfl (fun _ h => Sb.own (by repeat' (first | with_reducible exact Sb.all | exact Sb.nil | (apply Sb.cons; focus (first | ((repeat (first | with_reducible exact Tk.here | with_reducible apply Tk.there)); done) | ((repeat (first | exact Tk.here | apply Tk.there)); done))) | apply Sb.drop)) h)
        · -- else
          obtain ⟨_, hp1, hp2, rs', hl'⟩ := hst.resolve_right fun h => h5 h.1
          refine WC.skip <| WX.thenN <| WC.seq <| WC.region <| sv (vmI rfl) <| sv (vmP rfl) <| sv (vldac ag48 sz48 rfl rfl (by decide)) <| clx (by repeat' (first | with_reducible exact Sb.all | exact Sb.nil | (apply Sb.cons; focus (first | ((repeat (first | with_reducible exact Tk.here | with_reducible apply Tk.there)); done) | ((repeat (first | exact Tk.here | apply Tk.there)); done))) | apply Sb.drop)) (law_of) ct19 rfl fun r38 hr38 => ?_
          refine clx (by repeat' (first | with_reducible exact Sb.all | exact Sb.nil | (apply Sb.cons; focus (first | ((repeat (first | with_reducible exact Tk.here | with_reducible apply Tk.there)); done) | ((repeat (first | exact Tk.here | apply Tk.there)); done))) | apply Sb.drop)) (ref_do (f := af) (n := an) (b := ofb ki ab) (d := d) (s := s2) (hRb := ⟨ofb_rd (RdC.old hrd)⟩) (ofk_kind hk12) (by rw [ofk_mk]; exact hko) (by omega) (ofb_len (by omega)) (by omega) (by omega) (by omega) (by omega)) ct22 rfl fun r39 hr39 => ?_
          rw [ofk_mk, show callS ki (ofk ki ⟨af, an, ap, am⟩) (ofb ki ab).xs d s2 = (((actP w d' d).1, s2'), (actP w d' d).2) from by rw [← hca, hw, hrec, hd']; rfl]
          refine sv (vne rfl rfl) <| WL.nil <| WX.thenN <| ?_
          refine WC.ite rfl (fun h9 => ?_) (fun h9 => ?_)
          · -- then
            exact absurd hp2 h9
          · -- else
            exact WC.skip <| WX.blockN <| WX.thenN <| WC.region <| sv (vmI rfl) <| sv (vadd rfl rfl (by omega)) <| sv (vaI rfl) <| WL.nil <| WX.again (⟨k + 1, N + 1, M + 1, rs', P.1.1, P.1.2, s2'⟩) (⟨by dsimp only; omega, by dsimp only; omega, by dsimp only; omega, hl', hvc⟩) (by dsimp only; omega) ⟨rfl, trivial⟩ ⟨rfl, rfl, rfl, rfl, trivial⟩ (fun w h => by rw [← hp1] at h; exact Sb.own (by repeat' (first | with_reducible exact Sb.all | exact Sb.nil | (apply Sb.cons; focus (first | ((repeat (first | with_reducible exact Tk.here | with_reducible apply Tk.there)); done) | ((repeat (first | exact Tk.here | apply Tk.there)); done))) | apply Sb.drop)) h)
    · -- else
      refine WC.exit <| WX.thenE <| WX.thenE <| WX.blockH <| WX.thenN <| ?_
      refine WC.cut0 [(6, .bool true)] [] (A) trivial ?_ fun ρh => ?_
      · -- law.go:272
        refine WC.region <| clx (by repeat' (first | with_reducible exact Sb.all | exact Sb.nil | (apply Sb.cons; focus (first | ((repeat (first | with_reducible exact Tk.here | with_reducible apply Tk.there)); done) | ((repeat (first | exact Tk.here | apply Tk.there)); done))) | apply Sb.drop)) (law_awake) ct12 rfl fun r41 hr41 => ?_
        refine sv (vmB rfl) <| svg rfl (vmP rfl) <| svg rfl (vmP rfl) <| gy rfl <| clx (by repeat' (first | with_reducible exact Sb.all | exact Sb.nil | (apply Sb.cons; focus (first | ((repeat (first | with_reducible exact Tk.here | with_reducible apply Tk.there)); done) | ((repeat (first | exact Tk.here | apply Tk.there)); done))) | apply Sb.drop)) (law_isv v6 (by omega)) ct13 rfl fun r42 hr42 => ?_
        have e42 := hr42 rfl
        subst e42
        exact sv (vpkt rfl) <| sv (vaB rfl) <| WL.nil <| WX.mid () trivial ⟨rfl, trivial⟩ trivial (fun _ h => Sb.own (by repeat' (first | with_reducible exact Sb.all | exact Sb.nil | (apply Sb.cons; focus (first | ((repeat (first | with_reducible exact Tk.here | with_reducible apply Tk.there)); done) | ((repeat (first | exact Tk.here | apply Tk.there)); done))) | apply Sb.drop)) h)
      exact WC.ret <| WX.ret1 rfl (()) (trivial) rfl (fun _ h => Sb.own (by repeat' (first | with_reducible exact Sb.all | exact Sb.nil | (apply Sb.cons; focus (first | ((repeat (first | with_reducible exact Tk.here | with_reducible apply Tk.there)); done) | ((repeat (first | exact Tk.here | apply Tk.there)); done))) | apply Sb.drop)) h)
end Go.Proofs.YthljpljbpbkkcaaGreatDoor
end
