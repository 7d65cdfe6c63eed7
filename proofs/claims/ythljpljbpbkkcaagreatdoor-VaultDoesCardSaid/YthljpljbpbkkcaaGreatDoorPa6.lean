/-
  Texts one behind the other: VaultRefF, VaultRefG, VaultDoes.
-/
import Derived.Test.YthljpljbpbkkcaaGreatDoorPa5
section
set_option linter.unusedVariables false
set_option linter.unusedSimpArgs false
set_option maxRecDepth 4000
namespace Go.Proofs.YthljpljbpbkkcaaGreatDoor
open Go.Sl Go.RowKit Go.Pack Go.Vault Go.Journal

def ofk (kind : Int) (k : PK) : PK := if kind = 1 then k else ⟨k.flow, k.num, 0, 0⟩
def ofb (kind : Int) (b : Sla UInt8) : Sla UInt8 := if kind = 1 then b else ⟨none, [], 0⟩
theorem ofk_ok {kind : Int} {k : PK} (h : PkOk k) : PkOk (ofk kind k) := by
  unfold ofk; split
  · exact h
  · exact ⟨h.flow, h.num, (show (-9223372036854775808 : Int) ≤ 0 ∧ (0 : Int) ≤ 9223372036854775807 by decide), (show (-9223372036854775808 : Int) ≤ 0 ∧ (0 : Int) ≤ 9223372036854775807 by decide)⟩
theorem ofk_flow {kind : Int} {k : PK} : (ofk kind k).flow = k.flow := by unfold ofk; split <;> rfl
theorem ofk_num {kind : Int} {k : PK} : (ofk kind k).num = k.num := by unfold ofk; split <;> rfl
theorem ofk_kind {kind : Int} {k : PK} {b : Sla UInt8} (h : kind = 1 ∨ kind = 2) : kind = 1 ∨ (kind = 2 ∧ (ofk kind k).kind = 0 ∧ (ofk kind k).n = 0 ∧ ofb kind b = ⟨none, [], 0⟩) := by
  rcases h with rfl | rfl
  · exact .inl rfl
  · exact .inr ⟨rfl, rfl, rfl, rfl⟩
theorem ofb_len {kind : Int} {b : Sla UInt8} {m : Nat} (h : b.xs.length ≤ m) : (ofb kind b).xs.length ≤ m := by unfold ofb; split; exact h; exact Nat.zero_le _
theorem ofb_rd {w0 : World} {A : List HProp} {kind : Int} {b : Sla UInt8} (h : RdC w0 A b.base (u8s b.xs)) : RdC w0 A (ofb kind b).base (u8s (ofb kind b).xs) := by unfold ofb; split; exact h; exact RdC.nil
def callL (kind : Int) (k : PK) (b : List UInt8) (d : VD) (s : JV) : (VD × JV) × Int := if kind = 2 then dropS k.flow k.num d s else putS k b d s
theorem callS_of {kind : Int} {k : PK} {b : Sla UInt8} {d : VD} {s : JV} (h : kind = 1 ∨ kind = 2) : callS kind (ofk kind k) (ofb kind b).xs d s = callL kind k b.xs d s := by
  rcases h with rfl | rfl
  · exact callS_put
  · exact callS_drop
theorem ofk_mk (kind n pk pn : Int) (f : ByteArray) : (⟨f, n, (ofk kind ⟨f, n, pk, pn⟩).kind, (ofk kind ⟨f, n, pk, pn⟩).n⟩ : PK) = ofk kind ⟨f, n, pk, pn⟩ := by unfold ofk; split <;> rfl
theorem law_of {w0 : World} {A : List HProp} {kind n q pk pn : Int} {f : ByteArray} {b : Sla UInt8} :
    Fun Tryz.prog w0 19 [.agg (vcel kind n q f pk pn b).toArray] A (Ret w0 (fun _ : Unit => True) (fun _ => .agg (vc6 kind f n (ofk kind ⟨f, n, pk, pn⟩).kind (ofk kind ⟨f, n, pk, pn⟩).n (ofb kind b)).toArray) (fun _ => A)) := by
  refine Fun.enter Tryz.func19 rfl Tryz.ntmps19 rfl ?_
  refine WC.seq <| WC.region <| bxc (v := .agg _) (cs := [.int _ _, .int _ _, .int _ _, .string _, .int _ _, .int _ _, .slice _ _ _]) rfl rfl fun b1 => alz (cs := [.int .i64 0, .string ByteArray.empty, .int .i64 0, .int .i64 0, .int .i64 0, .slice none 0 0]) zt57 (by rfl) fun b2 => WL.nil <| WX.thenN <| WC.seq <| WC.region <| sv (vfldpz fl48f0 rfl) <| sv (vldc pl3 rfl) <| sv (vfldp fl48f3 rfl) <| sv (vldc pl9 rfl) <| sv (vfldp fl48f1 rfl) <| sv (vldc pl3 rfl) <| sv (vbd (ps := [(0, .int _ _), (1, .string _), (2, .int _ _)]) (cs := [_, _, _, _, _, _]) bt57 zt57 rfl (by rfl)) <| alz (cs := [.int .i64 0, .string ByteArray.empty, .int .i64 0, .int .i64 0, .int .i64 0, .slice none 0 0]) zt57 (by rfl) fun b7 => stAp sz57 rfl rfl rfl (by intro v hv; simp only [List.mem_cons, List.not_mem_nil, or_false] at hv; rcases hv with rfl | rfl | rfl | rfl | rfl | rfl <;> rfl) rfl <| WL.nil <| WX.thenN <| WC.seq <| WC.seq <| WC.region <| sv (vfldpz fl48f0 rfl) <| sv (vldc pl3 rfl) <| sv (veq rfl rfl) <| WL.nil <| WX.thenN <| ?_
  refine WC.ite rfl (fun h1 => ?_) (fun h1 => ?_)
  · -- then
    have e1 : ofk kind ⟨f, n, pk, pn⟩ = ⟨f, n, pk, pn⟩ := if_pos h1
    have e2 : ofb kind b = b := if_pos h1
    rw [e1, e2]
    exact WC.seq <| WC.region <| sv (vfldp fl48f4 rfl) <| sv (vldap (i := 4) (cs := [.int .i64 pk, .int .i64 pn]) ag46 sz46 rfl rfl rfl (by decide)) <| sv (vfldp fl57f3 rfl) <| staq (cs := [.int .i64 pk, .int .i64 pn]) (vs' := vc6 kind f n pk pn ⟨none, [], 0⟩) sz46 rfl rfl rfl rfl (by simp) rfl <| WL.nil <| WX.thenN <| WC.region <| sv (vfldp fl48f5 rfl) <| sv (vldc pl23 rfl) <| sv (vfldp fl57f4 rfl) <| stp (v := .slice _ _ _) pl23 sz23 rfl rfl rfl <| WL.nil <| WX.thenN <| WC.seq <| WC.region <| sv (vldac ag57 sz57 rfl rfl (by decide)) <| stAp sz57 rfl rfl rfl (by intro v hv; simp only [List.mem_cons, List.not_mem_nil, or_false] at hv; rcases hv with rfl | rfl | rfl | rfl | rfl | rfl <;> rfl) rfl <| WL.nil <| WX.thenN <| WC.ret <| WX.ret1c rfl ag57 sz57 (()) (trivial) rfl rfl (by decide) rfl (fun _ h => Sb.own (by repeat' (first | with_reducible exact Sb.all | exact Sb.nil | (apply Sb.cons; focus (first | ((repeat (first | with_reducible exact Tk.here | with_reducible apply Tk.there)); done) | ((repeat (first | exact Tk.here | apply Tk.there)); done))) | apply Sb.drop)) h)
  · -- else
    have e1 : ofk kind ⟨f, n, pk, pn⟩ = ⟨f, n, 0, 0⟩ := if_neg h1
    have e2 : ofb kind b = ⟨none, [], 0⟩ := if_neg h1
    rw [e1, e2]
    exact WC.skip <| WX.thenN <| WC.seq <| WC.region <| sv (vldac ag57 sz57 rfl rfl (by decide)) <| stAp sz57 rfl rfl rfl (by intro v hv; simp only [List.mem_cons, List.not_mem_nil, or_false] at hv; rcases hv with rfl | rfl | rfl | rfl | rfl | rfl <;> rfl) rfl <| WL.nil <| WX.thenN <| WC.ret <| WX.ret1c rfl ag57 sz57 (()) (trivial) rfl rfl (by decide) rfl (fun _ h => Sb.own (by repeat' (first | with_reducible exact Sb.all | exact Sb.nil | (apply Sb.cons; focus (first | ((repeat (first | with_reducible exact Tk.here | with_reducible apply Tk.there)); done) | ((repeat (first | exact Tk.here | apply Tk.there)); done))) | apply Sb.drop)) h)
theorem v_put_gl {w0 : World} {A : List HProp} {v j dk c l : Nat} {d : VD} {s : JV} {k : PK} {base : Option Addr} {bs : List UInt8} [hR : Reads w0 A base (u8s bs)] (hl : l = bs.length) (hk : PkOk k) (hf : k.flow.size ≤ 4096) (hb : bs.length ≤ 4096) (hd : 0 ≤ s.st.deeds ∧ s.st.deeds + 2 ≤ 9223372036854775807) (hn : 0 ≤ s.n ∧ s.n + 1 ≤ 9223372036854775807) :
    Fun Tryz.prog w0 40 [.pointer (some ⟨v, 0, none⟩), .string k.flow, .int .i64 k.num, .agg #[.int .i64 k.kind, .int .i64 k.n], .slice base l c] (vall v j dk d s A) (Ret w0 (fun _ : Unit => True) (fun _ => .int .i64 (putS k bs d s).2) (fun _ => vall v j dk (putS k bs d s).1.1 (putS k bs d s).1.2 A)) := by subst hl; exact v_put hk hf hb hd hn
theorem law_callg {w0 : World} {A : List HProp} {v j dk : Nat} {kind n q pk pn : Int} {f : ByteArray} {b : Sla UInt8} {d : VD} {s : JV} (hk : PkOk ⟨f, n, pk, pn⟩) (hf : f.size ≤ 4096) (hb : b.xs.length ≤ 4096) (hd : 0 ≤ s.st.deeds ∧ s.st.deeds + 2 ≤ 9223372036854775807) (hn : 0 ≤ s.n ∧ s.n + 1 ≤ 9223372036854775807) (hR : RdC w0 A b.base (u8s b.xs)) :
    Fun Tryz.prog w0 16 [.pointer (some ⟨v, 0, none⟩), .agg (vcel kind n q f pk pn b).toArray] (vall v j dk d s A) (Ret w0 (fun _ : Unit => True) (fun _ => .int .i64 (callL kind ⟨f, n, pk, pn⟩ b.xs d s).2) (fun _ => vall v j dk (callL kind ⟨f, n, pk, pn⟩ b.xs d s).1.1 (callL kind ⟨f, n, pk, pn⟩ b.xs d s).1.2 A)) := by
  refine Fun.enter Tryz.func16 rfl Tryz.ntmps16 rfl ?_
  refine WC.seq <| WC.region <| bxc (v := .agg _) (cs := [.int _ _, .int _ _, .int _ _, .string _, .int _ _, .int _ _, .slice _ _ _]) rfl rfl fun b1 => sv (vaI rfl) <| WL.nil <| WX.thenN <| WC.seq <| WC.seq <| WC.region <| sv (vfldpz fl48f0 rfl) <| sv (vldc pl3 rfl) <| sv (veq rfl rfl) <| WL.nil <| WX.thenN <| ?_
  refine WC.ite rfl (fun h1 => ?_) (fun h1 => ?_)
  · -- then
    have e1 : callL kind ⟨f, n, pk, pn⟩ b.xs d s = dropS f n d s := if_pos h1
    rw [e1]
    refine WC.seq <| WC.region <| sv (vmP rfl) <| sv (vfldp fl48f3 rfl) <| sv (vldc pl9 rfl) <| sv (vfldp fl48f1 rfl) <| sv (vldc pl3 rfl) <| clx (by repeat' (first | with_reducible exact Sb.all | exact Sb.nil | (apply Sb.cons; focus (first | ((repeat (first | with_reducible exact Tk.here | with_reducible apply Tk.there)); done) | ((repeat (first | exact Tk.here | apply Tk.there)); done))) | apply Sb.drop)) (v_dropc (d := d) (s := s) hf hk.num hd hn) ct42 rfl fun r5 hr5 => ?_
    exact sv (vaI rfl) <| WL.nil <| WX.thenN <| WC.ret <| WX.thenR <| WX.ret1 rfl (()) (trivial) rfl (fun _ h => Sb.own (by repeat' (first | with_reducible exact Sb.all | exact Sb.nil | (apply Sb.cons; focus (first | ((repeat (first | with_reducible exact Tk.here | with_reducible apply Tk.there)); done) | ((repeat (first | exact Tk.here | apply Tk.there)); done))) | apply Sb.drop)) h)
  · -- else
    have e1 : callL kind ⟨f, n, pk, pn⟩ b.xs d s = putS ⟨f, n, pk, pn⟩ b.xs d s := if_neg h1
    rw [e1]
    obtain ⟨P, hP⟩ : ∃ P, P = putS ⟨f, n, pk, pn⟩ b.xs d s := ⟨_, rfl⟩
    rw [← hP]
    refine WC.skip <| WX.thenN <| WC.seq <| WC.region <| bsl0 Tryz.underlying23 zt5 fun b6 => sv (vfldp fl48f5 rfl) <| sv (vldc pl23 rfl) <| pm (fun _ h => (show Own w0 (row (some ⟨b6, 0, none⟩) 0 1 5 (u8s []) :: cel b1 (vcel kind n q f pk pn b) 48 :: vall v j dk d s A) _ from h)) <| apb Tryz.underlying23 zt5 rfl rfl rfl rfl (hR.mono fun _ h => h.tail.tail.tail.tail.tail) (by omega) fun base8 c8 hc8 =>sv (vaS rfl) <| WL.nil <| WX.thenN <| WC.seq <| WC.region <| sv (vmP rfl) <| sv (vfldp fl48f3 rfl) <| sv (vldc pl9 rfl) <| sv (vfldp fl48f1 rfl) <| sv (vldc pl3 rfl) <| sv (vfldp fl48f4 rfl) <| sv (vldap ag46 sz46 rfl (cs := [.int .i64 pk, .int .i64 pn]) rfl rfl (by decide)) <| sv (vmS rfl) <| clx (by repeat' (first | with_reducible exact Sb.all | exact Sb.nil | (apply Sb.cons; focus (first | ((repeat (first | with_reducible exact Tk.here | with_reducible apply Tk.there)); done) | ((repeat (first | exact Tk.here | apply Tk.there)); done))) | apply Sb.drop)) (v_put_gl (k := ⟨f, n, pk, pn⟩) (bs := b.xs) (d := d) (s := s) (by simp) hk hf hb hd hn) ct40 rfl fun r12 hr12 => ?_
    rw [← hP]
    refine sv (vaI rfl) <| WL.nil <| WX.thenN <| WC.seq <| WC.seq <| WC.region <| sv (vaI rfl) <| WL.nil <| WX.thenN <| WC.block <| ?_
    refine WC.loop (ι := Nat × List UInt8) (fun i => [(7, .int .i64 i.1)]) [(3, _), (5, .slice _ _ _), (6, .int _ _)] (fun i => row base8 c8 1 5 (u8s i.2) :: cel b1 (vcel kind n q f pk pn b) 48 :: vall v j dk P.1.1 P.1.2 A) (fun i => i.1 ≤ b.xs.length ∧ i.2.length = b.xs.length ∧ i.2.drop i.1 = b.xs.drop i.1) (fun i => b.xs.length - i.1) ((0, b.xs)) (⟨Nat.zero_le _, rfl, rfl⟩) ⟨rfl, trivial⟩ ⟨rfl, rfl, rfl, trivial⟩ (fun _ h => Sb.own (by repeat' (first | with_reducible exact Sb.all | exact Sb.nil | (apply Sb.cons; focus (first | ((repeat (first | with_reducible exact Tk.here | with_reducible apply Tk.there)); done) | ((repeat (first | exact Tk.here | apply Tk.there)); done))) | apply Sb.drop)) h) ?_
    rintro ⟨i, l⟩ ⟨hi1, hi2, hi3⟩ ρh
    dsimp only at hi1 hi2 hi3 ⊢
    refine WC.seq <| WC.seq <| WC.region <| sv (vmI rfl) <| sv (vmS rfl) <| sv (vlen Tryz.underlying23 rfl) <| sv (vlt rfl rfl) <| WL.nil <| WX.thenN <| ?_
    refine WC.ite rfl (fun h2 => ?_) (fun h2 => ?_)
    · -- then
      refine WC.skip <| WX.thenN <| WC.seq <| WC.block <| WC.seq <| WC.seq <| WC.draws rfl (by kernel_rfl) <| qv (vmS rfl) <| qv (vmI rfl) <| qv (vix1 Tryz.underlying23 sz5 rfl rfl (by omega) (by omega) (RdC.of_row (c := c8) (s := 1) (e := 5) (vs := u8s l) (by simp)) (by rw [u8s_len]; omega)) <| qv (vldo pl5 rfl (RdC.of_row (c := c8) (s := 1) (e := 5) (vs := u8s l) (by simp)) (u8s_getD (by omega))) <| qv (vfldp fl48f5 rfl) <| qv (vldc pl23 rfl) <| qv (vmI rfl) <| qv (vix1 Tryz.underlying23 sz5 rfl rfl (by omega) (by omega) (hR.mono fun _ h => h.tail.tail.tail.tail.tail) (by rw [u8s_len]; omega)) <| qv (vldo pl5 rfl (hR.mono fun _ h => h.tail.tail.tail.tail.tail) (u8s_getD (by omega))) <| qv (vne rfl rfl) <| WQ.nil <| WX.thenN <| ?_
      refine WC.ite rfl (fun h3 => ?_) (fun h3 => ?_)
      · -- then
        exact absurd (congrArg (fun c : UInt8 => (c.toNat : Int)) (drop_getD hi3)) h3
      · -- else
        exact WC.skip <| WX.thenN <| WC.region <| sv (vmS rfl) <| sv (vmI rfl) <| sv (vix1 Tryz.underlying23 sz5 rfl rfl (by omega) (by omega) (RdC.of_row (c := c8) (s := 1) (e := 5) (vs := u8s l) (by simp)) (by rw [u8s_len]; omega)) <| strp (v := .int .u8 55) pl5 sz5 rfl rfl rfl (by rw [u8s_len]; omega) <| WL.nil <| WX.blockN <| WX.thenN <| WC.region <| sv (vmI rfl) <| sv (vadd rfl rfl (by omega)) <| sv (vaI rfl) <| WL.nil <| WX.again ((i + 1, l.set i 55)) (⟨by omega, by rw [List.length_set]; exact hi2, by rw [List.drop_set_of_lt (by omega), ← List.drop_drop, hi3, List.drop_drop]⟩) (by omega) ⟨rfl, trivial⟩ ⟨rfl, rfl, rfl, trivial⟩ (fun w h => by rw [← u8s_set0]; exact Sb.own (by repeat' (first | with_reducible exact Sb.all | exact Sb.nil | (apply Sb.cons; focus (first | ((repeat (first | with_reducible exact Tk.here | with_reducible apply Tk.there)); done) | ((repeat (first | exact Tk.here | apply Tk.there)); done))) | apply Sb.drop)) h)
    · -- else
      exact WC.exit <| WX.thenE <| WX.thenE <| WX.blockH <| WX.thenN <| WC.seq <| WC.region <| sv (vmI rfl) <| sv (vaI rfl) <| WL.nil <| WX.thenN <| WC.ret <| WX.ret1 rfl (()) (trivial) rfl (fun _ h => Sb.own (by repeat' (first | with_reducible exact Sb.all | exact Sb.nil | (apply Sb.cons; focus (first | ((repeat (first | with_reducible exact Tk.here | with_reducible apply Tk.there)); done) | ((repeat (first | exact Tk.here | apply Tk.there)); done))) | apply Sb.drop)) h)
structure GtI where
  base : Option Addr
  cap : Nat
  xs : List UInt8
  e : Int
structure GtR (d : VD) (k : PK) (i : GtI) : Prop where
  len : i.xs.length ≤ i.cap
  ok : (i.e = 0 ∧ d.parts k = some i.xs) ∨ (i.e = 6 ∧ i.xs = [] ∧ d.parts k = none)
theorem v_get_any {w0 : World} {A : List HProp} {v j : Nat} {dn : Bool} {d : VD} {f : ByteArray} {n pk pn : Int} (hk : PkOk ⟨f, n, pk, pn⟩) : Fun Tryz.prog w0 41 [.pointer (some ⟨v, 0, none⟩), .string f, .int .i64 n, .agg #[.int .i64 pk, .int .i64 pn]] (pv v j dn d :: A) (Ret w0 (GtR d ⟨f, n, pk, pn⟩) (fun i => .tuple #[.slice i.base i.xs.length i.cap, .int .i64 i.e]) (fun i => row i.base i.cap 1 5 (u8s i.xs) :: pv v j dn d :: A)) := by
  cases h : d.parts ⟨f, n, pk, pn⟩ with
  | none => exact (v_get_none hk h).mono fun e w ⟨i, _, he, hO⟩ => ⟨⟨none, 0, [], 6⟩, ⟨Nat.le_refl _, .inr ⟨rfl, rfl, h⟩⟩, he, hO.intro_row_nil⟩
  | some b => exact (v_get_some hk h).mono fun e w ⟨i, h1, he, hO⟩ => ⟨⟨i.1, i.2, b, 0⟩, ⟨h1, .inl ⟨rfl, h⟩⟩, he, hO⟩
theorem findR_none {l : List (PK × Sla UInt8)} {fl : List (ByteArray × Int)} {lb fb : Option Addr} {lc fc N : Nat} {d : VD} {k : PK} {v : Int} (hi : RVR N d ⟨l, fl, lb, lc, fb, fc⟩) (h : FindR l k v) (hv : v < 0) : d.parts k = none := by
  have := (h.neg hi.nd).1 hv
  rwa [hi.look] at this
theorem findR_some {l : List (PK × Sla UInt8)} {fl : List (ByteArray × Int)} {lb fb : Option Addr} {lc fc N : Nat} {d : VD} {k : PK} {v : Int} (hi : RVR N d ⟨l, fl, lb, lc, fb, fc⟩) (h : FindR l k v) (hv : ¬ v < 0) : ∃ (j : Nat) (x : PK × Sla UInt8), v = (j : Int) ∧ l[j]? = some x ∧ d.parts k = some x.2.xs := by
  rcases h with ⟨rfl, _⟩ | ⟨j, x, rfl, hj, rfl⟩
  · exact absurd (by decide) hv
  · refine ⟨j, x, rfl, hj, ?_⟩
    have := lookP_mem hi.nd (List.mem_of_getElem? hj)
    rwa [hi.look] at this
theorem u8s_setA {l : List UInt8} {j : Nat} {c : UInt8} : (u8s l).set j (u8v c) = u8s (l.set j c) := by simp [u8s]
theorem law_ask {w0 : World} {A : List HProp} {v j r w N lc fc : Nat} {lb fb : Option Addr} {l : List (PK × Sla UInt8)} {fl : List (ByteArray × Int)} {dn : Bool} {dv dr : VD} {kind n q pk pn : Int} {f : ByteArray} {b : Sla UInt8} (hk : PkOk ⟨f, n, pk, pn⟩) (hcv : Cnt dv) (hi : RVR N dr ⟨l, fl, lb, lc, fb, fc⟩) (hN : N ≤ 134217728) [hc : CelAt A r [.slice lb l.length lc, .slice fb fl.length fc, .pointer (some ⟨w, 0, none⟩)] 53] [hR1 : Reads w0 A lb (fla callC l)] (hB : ∀ x ∈ l, RdC w0 A x.2.base (u8s x.2.xs)) :
    Fun Tryz.prog w0 26 [.pointer (some ⟨v, 0, none⟩), .pointer (some ⟨r, 0, none⟩), .agg (vcel kind n q f pk pn b).toArray] (pv v j dn dv :: A) (Ret w0 (fun b : Bool => dv = dr → b = true) (fun b => .bool b) (fun _ => pv v j dn dv :: A)) := by
  have hlen := hi.len
  have hcl := fla_length (f := callC) (l := l) callC_len
  dsimp only at hlen
  refine Fun.enter Tryz.func26 rfl Tryz.ntmps26 rfl ?_
  refine WC.seq <| WC.region <| bxc (v := .agg _) (cs := [.int _ _, .int _ _, .int _ _, .string _, .int _ _, .int _ _, .slice _ _ _]) rfl rfl fun b1 => sv (vaB rfl) <| WL.nil <| WX.thenN <| WC.seq <| WC.seq <| WC.region <| sv (vfldpz fl48f0 rfl) <| sv (vldc pl3 rfl) <| WL.nil <| WX.thenN <| WC.block <| WC.seq <| WC.region <| sv (veq rfl rfl) <| sv (vaB rfl) <| WL.nil <| WX.thenN <| ?_
  refine WC.ite rfl (fun h1 => ?_) (fun h1 => ?_)
  · -- then
    refine WC.seq <| WC.region <| sv (vmP rfl) <| sv (vfldp fl48f3 rfl) <| sv (vldc pl9 rfl) <| sv (vfldp fl48f1 rfl) <| sv (vldc pl3 rfl) <| sv (vfldp fl48f4 rfl) <| sv (vldap (i := 4) (cs := [.int .i64 pk, .int .i64 pn]) ag46 sz46 rfl rfl rfl (by decide)) <| clx (by repeat' (first | with_reducible exact Sb.all | exact Sb.nil | (apply Sb.cons; focus (first | ((repeat (first | with_reducible exact Tk.here | with_reducible apply Tk.there)); done) | ((repeat (first | exact Tk.here | apply Tk.there)); done))) | apply Sb.drop)) (v_get_any hk) ct41 rfl fun r6 hr6 => ?_
    obtain ⟨gb, gc, gx, ge⟩ := r6
    obtain ⟨hg1, hg2⟩ := hr6
    dsimp only at hg1 hg2 ⊢
    refine sv vmv <| sv (vex rfl rfl) <| sv (vex rfl rfl) <| sv (vaS rfl) <| sv (vaI rfl) <| WL.nil <| WX.thenN <| WC.seq <| WC.region <| sv (vmP rfl) <| sv (vfldp fl48f3 rfl) <| sv (vldc pl9 rfl) <| sv (vfldp fl48f1 rfl) <| sv (vldc pl3 rfl) <| sv (vfldp fl48f4 rfl) <| sv (vldap (i := 4) (cs := [.int .i64 pk, .int .i64 pn]) ag46 sz46 rfl rfl rfl (by decide)) <| clx (by repeat' (first | with_reducible exact Sb.all | exact Sb.nil | (apply Sb.cons; focus (first | ((repeat (first | with_reducible exact Tk.here | with_reducible apply Tk.there)); done) | ((repeat (first | exact Tk.here | apply Tk.there)); done))) | apply Sb.drop)) (ref_find16 (l := l) (by omega)) ct47 rfl fun r10 hr10 => ?_
    refine sv (vaI rfl) <| WL.nil <| WX.thenN <| WC.seq <| WC.seq <| WC.region <| sv (vmI rfl) <| sv (vlt rfl rfl) <| WL.nil <| WX.thenN <| ?_
    refine WC.ite rfl (fun h2 => ?_) (fun h2 => ?_)
    · -- then
      have hno := findR_none hi hr10 h2
      refine WC.cutS [(6, .bool (decide (ge = 6 ∧ gx.length = 0)))] [] trivial ?_ fun ρh => ?_
      · -- law.go:58
        refine WC.region <| sv (vmI rfl) <| svs (veq rfl rfl) (fun q1 => ?_) (fun q1 => ?_)
        ·
          exact sv (vmB rfl) <| svg rfl (vmS rfl) <| svg rfl (vlen Tryz.underlying23 rfl) <| svg rfl (veq rfl rfl) <| sv (vpkt rfl) <| sv (vaB rfl) <| WL.nil <| WX.mid () trivial ⟨bI (by omega), trivial⟩ trivial (fun _ h => Sb.own (by repeat' (first | with_reducible exact Sb.all | exact Sb.nil | (apply Sb.cons; focus (first | ((repeat (first | with_reducible exact Tk.here | with_reducible apply Tk.there)); done) | ((repeat (first | exact Tk.here | apply Tk.there)); done))) | apply Sb.drop)) h)
        ·
          exact sv (vmB rfl) <| sng rfl <| sng rfl <| sng rfl <| sv (vpkf rfl) <| sv (vaB rfl) <| WL.nil <| WX.mid () trivial ⟨bF (by omega), trivial⟩ trivial (fun _ h => Sb.own (by repeat' (first | with_reducible exact Sb.all | exact Sb.nil | (apply Sb.cons; focus (first | ((repeat (first | with_reducible exact Tk.here | with_reducible apply Tk.there)); done) | ((repeat (first | exact Tk.here | apply Tk.there)); done))) | apply Sb.drop)) h)
      exact WC.ret <| WX.thenR <| WX.blockR <| WX.thenR <| WX.ret1 rfl (decide (ge = 6 ∧ gx.length = 0)) (fun hd => decide_eq_true (by rw [hd] at hg2; rcases hg2 with ⟨_, h⟩ | ⟨h1, h2, _⟩; rw [hno] at h; cases h; exact ⟨h1, by rw [h2]; rfl⟩)) rfl (fun _ h => Sb.own (by repeat' (first | with_reducible exact Sb.all | exact Sb.nil | (apply Sb.cons; focus (first | ((repeat (first | with_reducible exact Tk.here | with_reducible apply Tk.there)); done) | ((repeat (first | exact Tk.here | apply Tk.there)); done))) | apply Sb.drop)) h)
    · -- else
      obtain ⟨at_, x, rfl, hat, hpx⟩ := findR_some hi hr10 h2
      have hatl := (List.getElem?_eq_some_iff.1 hat).1
      have hpos : 0 < (fla callC l).length := by omega
      refine WC.known (fun w h => rsomeV (base := lb) hpos hR1.rd (Sb.own (B := A) (by repeat' (first | with_reducible exact Sb.all | exact Sb.nil | (apply Sb.cons; focus (first | ((repeat (first | with_reducible exact Tk.here | with_reducible apply Tk.there)); done) | ((repeat (first | exact Tk.here | apply Tk.there)); done))) | apply Sb.drop)) h)) fun hb => ?_
      have hf4 := fla6 callC_len hat 5 (by omega)
      have hBx := hB x (List.mem_of_getElem? hat)
      refine WC.skip <| WX.thenN <| WC.seq <| ?_
      refine WC.cutS [(61, .bool (decide (¬ (ge = 0 ∧ gx = x.2.xs))))] [(7, .slice _ _ _)] ⟨rfl, trivial⟩ ?_ fun ρh => ?_
      · -- law.go:60
        refine WC.draws rfl (by kernel_rfl) <| qv (vmI rfl) <| qvs (vne rfl rfl) (fun q2 => ?_) (fun q2 => ?_)
        ·
          exact qv (vmB rfl) <| qng rfl <| qng rfl <| qng rfl <| qng rfl <| qng rfl <| qng rfl <| qng rfl <| qng rfl <| qng rfl <| qng rfl <| qng rfl <| qng rfl <| qv (vpkt rfl) <| WQ.nil <| WX.mid () trivial ⟨bT (fun h => q2 h.1), trivial⟩ ⟨rfl, trivial⟩ (fun _ h => Sb.own (by repeat' (first | with_reducible exact Sb.all | exact Sb.nil | (apply Sb.cons; focus (first | ((repeat (first | with_reducible exact Tk.here | with_reducible apply Tk.there)); done) | ((repeat (first | exact Tk.here | apply Tk.there)); done))) | apply Sb.drop)) h)
        ·
          exact qv (vmB rfl) <| qvg rfl (vmS rfl) <| qvg rfl (vstr (bs := gx) Tryz.underlying23 Tryz.underlying5 Tryz.underlying9 rfl (RdC.of_row (c := gc) (s := 1) (e := 5) (by simp)) rfl) <| qvg rfl (vmP rfl) <| qvg rfl (vnil rfl) <| qvg rfl (vfldpz fl53f0 rfl) <| qvg rfl (vldc pl50 rfl) <| qvg rfl (vmI rfl) <| qvg rfl (vix Tryz.underlying50 sz57 rfl rfl (by omega) (by omega) reads (hpos)) <| qvg rfl (vfldr (hb) fl57f4 rfl) <| qvg rfl (vldo pl23 rfl (hR1.rd.mono fun _ h => Sb.own (by repeat' (first | with_reducible exact Sb.all | exact Sb.nil | (apply Sb.cons; focus (first | ((repeat (first | with_reducible exact Tk.here | with_reducible apply Tk.there)); done) | ((repeat (first | exact Tk.here | apply Tk.there)); done))) | apply Sb.drop)) h) hf4) <| qvg rfl (vstr (bs := x.2.xs) Tryz.underlying23 Tryz.underlying5 Tryz.underlying9 rfl (hBx.mono fun _ h => Sb.own (by repeat' (first | with_reducible exact Sb.all | exact Sb.nil | (apply Sb.cons; focus (first | ((repeat (first | with_reducible exact Tk.here | with_reducible apply Tk.there)); done) | ((repeat (first | exact Tk.here | apply Tk.there)); done))) | apply Sb.drop)) h) rfl) <| qvg rfl (vnes rfl rfl) <| qv (vpkf rfl) <| WQ.nil <| WX.mid () trivial ⟨bI (by have h0 : ge = 0 := Decidable.not_not.1 q2; simp [h0]), trivial⟩ ⟨rfl, trivial⟩ (fun _ h => Sb.own (by repeat' (first | with_reducible exact Sb.all | exact Sb.nil | (apply Sb.cons; focus (first | ((repeat (first | with_reducible exact Tk.here | with_reducible apply Tk.there)); done) | ((repeat (first | exact Tk.here | apply Tk.there)); done))) | apply Sb.drop)) h)
      refine WC.ite rfl (fun h3 => ?_) (fun h3 => ?_)
      · -- then
        exact WC.seq <| WC.region <| sv (vaB rfl) <| WL.nil <| WX.thenN <| WC.ret <| WX.thenR <| WX.blockR <| WX.thenR <| WX.ret1 rfl (false) (fun hd => by rw [hd] at hg2; rcases hg2 with ⟨h1, h⟩ | ⟨_, _, h⟩; rw [hpx] at h; cases h; exact absurd ⟨h1, rfl⟩ h3; rw [hpx] at h; cases h) rfl (fun _ h => Sb.own (by repeat' (first | with_reducible exact Sb.all | exact Sb.nil | (apply Sb.cons; focus (first | ((repeat (first | with_reducible exact Tk.here | with_reducible apply Tk.there)); done) | ((repeat (first | exact Tk.here | apply Tk.there)); done))) | apply Sb.drop)) h)
      · -- else
        refine WC.known (fun w h => (row_le (Sb.own (B := [row gb gc 1 5 (u8s gx)]) (by repeat' (first | with_reducible exact Sb.all | exact Sb.nil | (apply Sb.cons; focus (first | ((repeat (first | with_reducible exact Tk.here | with_reducible apply Tk.there)); done) | ((repeat (first | exact Tk.here | apply Tk.there)); done))) | apply Sb.drop)) h)).2) fun hgc => ?_
        simp only [maxLen] at hgc
        refine WC.skip <| WX.thenN <| WC.seq <| WC.region <| sv (vaI rfl) <| WL.nil <| WX.thenN <| WC.block <| ?_
        refine WC.loop (ι := Nat × List UInt8) (fun i => [(10, .int .i64 i.1)]) [(7, .slice _ _ _)] (fun i => row gb gc 1 5 (u8s i.2) :: pv v j dn dv :: A) (fun i => i.1 ≤ gx.length ∧ i.2.length = gx.length) (fun i => gx.length - i.1) ((0, gx)) (⟨Nat.zero_le _, rfl⟩) ⟨rfl, trivial⟩ ⟨rfl, trivial⟩ (fun _ h => Sb.own (by repeat' (first | with_reducible exact Sb.all | exact Sb.nil | (apply Sb.cons; focus (first | ((repeat (first | with_reducible exact Tk.here | with_reducible apply Tk.there)); done) | ((repeat (first | exact Tk.here | apply Tk.there)); done))) | apply Sb.drop)) h) ?_
        rintro ⟨i, g⟩ ⟨hi1, hi2⟩ ρh
        dsimp only at hi1 hi2 ⊢
        refine WC.seq <| WC.seq <| WC.region <| sv (vmI rfl) <| sv (vmS rfl) <| sv (vlen Tryz.underlying23 rfl) <| sv (vlt rfl rfl) <| WL.nil <| WX.thenN <| ?_
        refine WC.ite rfl (fun h4 => ?_) (fun h4 => ?_)
        · -- then
          exact WC.skip <| WX.thenN <| WC.seq <| WC.block <| WC.region <| sv (vmS rfl) <| sv (vmI rfl) <| sv (vix1 Tryz.underlying23 sz5 rfl rfl (by omega) (by omega) (RdC.of_row (c := gc) (s := 1) (e := 5) (vs := u8s g) (by simp)) (by rw [u8s_len]; omega)) <| strp (v := .int .u8 66) pl5 sz5 rfl rfl rfl (by rw [u8s_len]; omega) <| WL.nil <| WX.blockN <| WX.thenN <| WC.region <| sv (vmI rfl) <| sv (vadd rfl rfl (by omega)) <| sv (vaI rfl) <| WL.nil <| WX.again ((i + 1, g.set i 66)) (⟨by omega, by rw [List.length_set]; exact hi2⟩) (by omega) ⟨rfl, trivial⟩ ⟨rfl, trivial⟩ (fun w h => by rw [← u8s_setA]; exact Sb.own (by repeat' (first | with_reducible exact Sb.all | exact Sb.nil | (apply Sb.cons; focus (first | ((repeat (first | with_reducible exact Tk.here | with_reducible apply Tk.there)); done) | ((repeat (first | exact Tk.here | apply Tk.there)); done))) | apply Sb.drop)) h)
        · -- else
          exact WC.exit <| WX.thenE <| WX.thenE <| WX.blockH <| WX.blockN <| WX.thenN <| WC.seq <| WC.region <| sv (vaB rfl) <| WL.nil <| WX.thenN <| WC.ret <| WX.ret1 rfl (true) (fun _ => rfl) rfl (fun _ h => Sb.own (by repeat' (first | with_reducible exact Sb.all | exact Sb.nil | (apply Sb.cons; focus (first | ((repeat (first | with_reducible exact Tk.here | with_reducible apply Tk.there)); done) | ((repeat (first | exact Tk.here | apply Tk.there)); done))) | apply Sb.drop)) h)
  · -- else
    refine WC.seq <| WC.region <| sv (veq rfl rfl) <| sv (vaB rfl) <| WL.nil <| WX.thenN <| ?_
    refine WC.ite rfl (fun h5 => ?_) (fun h5 => ?_)
    · -- then
      exact WC.seq <| WC.draws rfl (by kernel_rfl) <| qv (vmP rfl) <| qv (vfldp fl48f3 rfl) <| qv (vldc pl9 rfl) <| qv (vfldp fl48f1 rfl) <| qv (vldc pl3 rfl) <| qv (vfldp fl48f2 rfl) <| qv (vldc pl3 rfl) <| qcl (Quiet.spl (X := [pv v j dn dv]) (by repeat' (first | exact Spl.nil | (apply Spl.cons; focus (first | ((repeat (first | with_reducible exact Tk.here | with_reducible apply Tk.there)); done) | ((repeat (first | exact Tk.here | apply Tk.there)); done))))) (v_whole hk.flow hk.num)) ct50 rfl <| qv (vmP rfl) <| qv (vfldp fl48f3 rfl) <| qv (vldc pl9 rfl) <| qv (vfldp fl48f1 rfl) <| qv (vldc pl3 rfl) <| qv (vfldp fl48f2 rfl) <| qv (vldc pl3 rfl) <| qcl (Fun.quiet (ref_whole hi hN)) ct51 rfl <| qv (veqb Tryz.underlying4 rfl rfl) <| qv (vaB rfl) <| WQ.nil <| WX.thenN <| WC.ret <| WX.blockR <| WX.thenR <| WX.ret1 rfl (decide (wholeP dv f n q = wholeP dr f n q)) (fun hd => decide_eq_true (by rw [hd])) rfl (fun _ h => Sb.own (by repeat' (first | with_reducible exact Sb.all | exact Sb.nil | (apply Sb.cons; focus (first | ((repeat (first | with_reducible exact Tk.here | with_reducible apply Tk.there)); done) | ((repeat (first | exact Tk.here | apply Tk.there)); done))) | apply Sb.drop)) h)
    · -- else
      refine WC.seq <| WC.region <| sv (veq rfl rfl) <| sv (vaB rfl) <| WL.nil <| WX.thenN <| ?_
      refine WC.ite rfl (fun h6 => ?_) (fun h6 => ?_)
      · -- then
        refine WC.seq <| WC.region <| sv (vmP rfl) <| sv (vfldp fl48f3 rfl) <| sv (vldc pl9 rfl) <| clx (by repeat' (first | with_reducible exact Sb.all | exact Sb.nil | (apply Sb.cons; focus (first | ((repeat (first | with_reducible exact Tk.here | with_reducible apply Tk.there)); done) | ((repeat (first | exact Tk.here | apply Tk.there)); done))) | apply Sb.drop)) (v_numbers hcv) ct52 rfl fun r28 hr28 => ?_
        obtain ⟨ob, oc, ox⟩ := r28
        obtain ⟨ho1, ho2⟩ := hr28
        dsimp only at ho1 ho2 ⊢
        refine sv (vaS rfl) <| WL.nil <| WX.thenN <| WC.seq <| WC.region <| sv (vmP rfl) <| sv (vfldp fl48f3 rfl) <| sv (vldc pl9 rfl) <| clx (by repeat' (first | with_reducible exact Sb.all | exact Sb.nil | (apply Sb.cons; focus (first | ((repeat (first | with_reducible exact Tk.here | with_reducible apply Tk.there)); done) | ((repeat (first | exact Tk.here | apply Tk.there)); done))) | apply Sb.drop)) (ref_numbers hi hN) ct53 rfl fun r30 hr30 => ?_
        obtain ⟨mb, mc, mx⟩ := r30
        obtain ⟨hm1, hm2, hm3⟩ := hr30
        dsimp only at hm1 hm2 hm3 ⊢
        refine sv (vaS rfl) <| WL.nil <| WX.thenN <| WC.seq <| WC.seq <| WC.region <| sv (vmS rfl) <| sv (vlen Tryz.underlying105 rfl) <| sv (vmS rfl) <| sv (vlen Tryz.underlying105 rfl) <| sv (vne rfl rfl) <| WL.nil <| WX.thenN <| ?_
        refine WC.ite rfl (fun h7 => ?_) (fun h7 => ?_)
        · -- then
          exact WC.seq <| WC.region <| sv (vaB rfl) <| WL.nil <| WX.thenN <| WC.ret <| WX.thenR <| WX.blockR <| WX.thenR <| WX.ret1 rfl (false) (fun hd => by rw [hd] at ho1; rw [ho1.uniq hm1] at h7; exact absurd rfl h7) rfl (fun _ h => Sb.own (by repeat' (first | with_reducible exact Sb.all | exact Sb.nil | (apply Sb.cons; focus (first | ((repeat (first | with_reducible exact Tk.here | with_reducible apply Tk.there)); done) | ((repeat (first | exact Tk.here | apply Tk.there)); done))) | apply Sb.drop)) h)
        · -- else
          have hll : ox.length = mx.length := by omega
          refine WC.skip <| WX.thenN <| WC.seq <| WC.region <| sv (vaI rfl) <| WL.nil <| WX.thenN <| WC.block <| ?_
          refine WC.loopS (ι := Nat) (fun i => [(13, .int .i64 i)]) [(11, .slice _ _ _), (12, .slice _ _ _)] (fun i => i ≤ ox.length) (fun i => ox.length - i) (0) (by omega) ⟨rfl, trivial⟩ ⟨rfl, rfl, trivial⟩ ?_
          intro i hi ρh
          refine WC.seq <| WC.seq <| WC.region <| sv (vmI rfl) <| sv (vmS rfl) <| sv (vlen Tryz.underlying105 rfl) <| sv (vlt rfl rfl) <| WL.nil <| WX.thenN <| ?_
          refine WC.ite rfl (fun h8 => ?_) (fun h8 => ?_)
          · -- then
            refine WC.skip <| WX.thenN <| WC.seq <| WC.block <| WC.seq <| WC.draws rfl (by kernel_rfl) <| qv (vmS rfl) <| qv (vmI rfl) <| qv (vix1 Tryz.underlying105 sz3 rfl rfl (by omega) (by omega) (RdC.of_row (c := oc) (s := 1) (e := 3) (vs := i64s ox) (by simp)) (by rw [i64s_length]; omega)) <| qv (vldo pl3 rfl (RdC.of_row (c := oc) (s := 1) (e := 3) (vs := i64s ox) (by simp)) (i64s_getN (by omega))) <| qv (vmS rfl) <| qv (vmI rfl) <| qv (vix1 Tryz.underlying105 sz3 rfl rfl (by omega) (by omega) (RdC.of_row (c := mc) (s := 1) (e := 3) (vs := i64s mx) (by simp)) (by rw [i64s_length]; omega)) <| qv (vldo pl3 rfl (RdC.of_row (c := mc) (s := 1) (e := 3) (vs := i64s mx) (by simp)) (i64s_getN (by omega))) <| qv (vne rfl rfl) <| WQ.nil <| WX.thenN <| ?_
            refine WC.ite rfl (fun h9 => ?_) (fun h9 => ?_)
            · -- then
              exact WC.seq <| WC.region <| sv (vaB rfl) <| WL.nil <| WX.thenN <| WC.ret <| WX.blockR <| WX.thenR <| WX.thenR <| WX.blockR <| WX.blockR <| WX.thenR <| WX.ret1 rfl (false) (fun hd => by rw [hd] at ho1; rw [ho1.uniq hm1] at h9; exact absurd rfl h9) rfl (fun _ h => Sb.own (by repeat' (first | with_reducible exact Sb.all | exact Sb.nil | (apply Sb.cons; focus (first | ((repeat (first | with_reducible exact Tk.here | with_reducible apply Tk.there)); done) | ((repeat (first | exact Tk.here | apply Tk.there)); done))) | apply Sb.drop)) h)
            · -- else
              exact WC.skip <| WX.blockN <| WX.thenN <| WC.region <| sv (vmI rfl) <| sv (vadd rfl rfl (by omega)) <| sv (vaI rfl) <| WL.nil <| WX.again (i + 1) (by omega) (by omega) ⟨rfl, trivial⟩ ⟨rfl, rfl, trivial⟩ (fun _ h => Sb.own (by repeat' (first | with_reducible exact Sb.all | exact Sb.nil | (apply Sb.cons; focus (first | ((repeat (first | with_reducible exact Tk.here | with_reducible apply Tk.there)); done) | ((repeat (first | exact Tk.here | apply Tk.there)); done))) | apply Sb.drop)) h)
          · -- else
            exact WC.exit <| WX.thenE <| WX.thenE <| WX.blockH <| WX.blockN <| WX.thenN <| WC.seq <| WC.region <| sv (vaB rfl) <| WL.nil <| WX.thenN <| WC.ret <| WX.ret1 rfl (true) (fun _ => rfl) rfl (fun _ h => Sb.own (by repeat' (first | with_reducible exact Sb.all | exact Sb.nil | (apply Sb.cons; focus (first | ((repeat (first | with_reducible exact Tk.here | with_reducible apply Tk.there)); done) | ((repeat (first | exact Tk.here | apply Tk.there)); done))) | apply Sb.drop)) h)
      · -- else
        exact WC.skip <| WX.blockN <| WX.thenN <| WC.seq <| WC.region <| sv (vaB rfl) <| WL.nil <| WX.thenN <| WC.ret <| WX.ret1 rfl (true) (fun _ => rfl) rfl (fun _ h => Sb.own (by repeat' (first | with_reducible exact Sb.all | exact Sb.nil | (apply Sb.cons; focus (first | ((repeat (first | with_reducible exact Tk.here | with_reducible apply Tk.there)); done) | ((repeat (first | exact Tk.here | apply Tk.there)); done))) | apply Sb.drop)) h)
theorem law_there {w0 : World} {A : List HProp} {v j : Nat} {dn : Bool} {d : VD} {kind n q pk pn : Int} {f : ByteArray} {b : Sla UInt8} (hk : PkOk ⟨f, n, pk, pn⟩) :
    Fun Tryz.prog w0 20 [.pointer (some ⟨v, 0, none⟩), .agg (vcel kind n q f pk pn b).toArray] (pv v j dn d :: A) (Ret w0 (fun _ : Unit => True) (fun _ => .bool (d.parts ⟨f, n, pk, pn⟩).isSome) (fun _ => pv v j dn d :: A)) := by
  refine Fun.enter Tryz.func20 rfl Tryz.ntmps20 rfl ?_
  refine WC.seq <| WC.region <| bxc (v := .agg _) (cs := [.int _ _, .int _ _, .int _ _, .string _, .int _ _, .int _ _, .slice _ _ _]) rfl rfl fun b1 => sv (vaB rfl) <| WL.nil <| WX.thenN <| WC.seq <| WC.region <| sv (vmP rfl) <| sv (vfldp fl48f3 rfl) <| sv (vldc pl9 rfl) <| sv (vfldp fl48f1 rfl) <| sv (vldc pl3 rfl) <| sv (vfldp fl48f4 rfl) <| sv (vldap (i := 4) (cs := [.int .i64 pk, .int .i64 pn]) ag46 sz46 rfl rfl rfl (by decide)) <| clx (by repeat' (first | with_reducible exact Sb.all | exact Sb.nil | (apply Sb.cons; focus (first | ((repeat (first | with_reducible exact Tk.here | with_reducible apply Tk.there)); done) | ((repeat (first | exact Tk.here | apply Tk.there)); done))) | apply Sb.drop)) (v_get_any hk) ct41 rfl fun r5 hr5 => ?_
  obtain ⟨gb, gc, gx, ge⟩ := r5
  obtain ⟨hg1, hg2⟩ := hr5
  dsimp only at hg1 hg2 ⊢
  exact sv vmv <| sv (vex rfl rfl) <| sv (vex rfl rfl) <| sv (vaS rfl) <| sv (vaI rfl) <| WL.nil <| WX.thenN <| WC.seq <| WC.region <| sv (vmI rfl) <| sv (veq rfl rfl) <| sv (vaB rfl) <| WL.nil <| WX.thenN <| WC.ret <| WX.ret1 rfl (()) (trivial) (show Value.bool (decide (ge = 0)) = _ from by congr 1; rcases hg2 with ⟨h1, h⟩ | ⟨h1, _, h⟩; rw [h, h1]; rfl; rw [h, h1]; rfl) (fun _ h => Sb.own (by repeat' (first | with_reducible exact Sb.all | exact Sb.nil | (apply Sb.cons; focus (first | ((repeat (first | with_reducible exact Tk.here | with_reducible apply Tk.there)); done) | ((repeat (first | exact Tk.here | apply Tk.there)); done))) | apply Sb.drop)) h)
end Go.Proofs.YthljpljbpbkkcaaGreatDoor
end
section
set_option linter.unusedVariables false
set_option linter.unusedSimpArgs false
set_option maxRecDepth 4000
namespace Go.Proofs.YthljpljbpbkkcaaGreatDoor
open Go.Sl Go.RowKit Go.Pack Go.Vault Go.Journal

theorem fl_ok {f : ByteArray} (h : f.size ≤ 140737488351232) : PkOk ⟨f, 0, 0, 0⟩ :=
  ⟨h, (show (-9223372036854775808 : Int) ≤ 0 ∧ (0 : Int) ≤ 9223372036854775807 by decide), (show (-9223372036854775808 : Int) ≤ 0 ∧ (0 : Int) ≤ 9223372036854775807 by decide), (show (-9223372036854775808 : Int) ≤ 0 ∧ (0 : Int) ≤ 9223372036854775807 by decide)⟩
theorem law_is {w0 : World} {A : List HProp} {v j r w N lc fc : Nat} {lb fb : Option Addr} {l : List (PK × Sla UInt8)} {fl : List (ByteArray × Int)} {dn : Bool} {dv dr : VD} (hcv : Cnt dv) (hi : RVR N dr ⟨l, fl, lb, lc, fb, fc⟩) (hN : N ≤ 134217728) [hc : CelAt A r [.slice lb l.length lc, .slice fb fl.length fc, .pointer (some ⟨w, 0, none⟩)] 53] [hR1 : Reads w0 A lb (fla callC l)] [hR2 : Reads w0 A fb (fla flC fl)] (hB : ∀ x ∈ l, RdC w0 A x.2.base (u8s x.2.xs)) :
    Fun Tryz.prog w0 13 [.pointer (some ⟨v, 0, none⟩), .pointer (some ⟨r, 0, none⟩)] (pv v j dn dv :: A) (Ret w0 (fun b : Bool => dv = dr → b = true) (fun b => .bool b) (fun _ => pv v j dn dv :: A)) := by
  have hlen := hi.len
  have hcl := fla_length (f := callC) (l := l) callC_len
  have hfl := fla_length (f := flC) (l := fl) flC_len
  dsimp only at hlen
  refine Fun.enter Tryz.func13 rfl Tryz.ntmps13 rfl ?_
  refine WC.seq <| WC.region <| sv (vaB rfl) <| WL.nil <| WX.thenN <| WC.seq <| WC.seq <| WC.region <| sv (vaI rfl) <| WL.nil <| WX.thenN <| WC.block <| ?_
  refine WC.loopS (ι := Nat) (fun i => [(5, .int .i64 i)]) [(0, .pointer _), (1, .pointer _)] (fun i => i ≤ l.length) (fun i => l.length - i) (0) (by omega) ⟨rfl, trivial⟩ ⟨rfl, rfl, trivial⟩ ?_
  intro i hii ρh
  refine WC.seq <| WC.seq <| WC.region <| sv (vmI rfl) <| sv (vmP rfl) <| sv (vnil rfl) <| sv (vfldpz fl53f0 rfl) <| sv (vldc pl50 rfl) <| sv (vlen Tryz.underlying50 rfl) <| sv (vlt rfl rfl) <| WL.nil <| WX.thenN <| ?_
  refine WC.ite rfl (fun h1 => ?_) (fun h1 => ?_)
  · -- then
    have hil : i < l.length := by omega
    obtain ⟨a, ha⟩ : ∃ a, l[i]? = some a := ⟨_, List.getElem?_eq_getElem hil⟩
    have hpos : 0 < (fla callC l).length := by omega
    refine WC.known (fun w h => rsomeV (base := lb) hpos hR1.rd.cons h) fun hb => ?_
    have hag := fla6d callC_len ha
    have hak := (hi.ok a (List.mem_of_getElem? ha)).1
    obtain ⟨⟨af, an, ak, am⟩, ab⟩ := a
    dsimp only [callC] at hag hak ⊢
    refine WC.skip <| WX.thenN <| WC.seq <| WC.block <| WC.seq <| WC.region <| sv (vmP rfl) <| sv (vnil rfl) <| sv (vfldpz fl53f0 rfl) <| sv (vldc pl50 rfl) <| sv (vmI rfl) <| sv (vix Tryz.underlying50 sz57 rfl rfl (by omega) (by omega) reads (hpos)) <| sv (vlda ag57 sz57 rfl (hR1.rd.mono fun _ h => Sb.own (by repeat' (first | with_reducible exact Sb.all | exact Sb.nil | (apply Sb.cons; focus (first | ((repeat (first | with_reducible exact Tk.here | with_reducible apply Tk.there)); done) | ((repeat (first | exact Tk.here | apply Tk.there)); done))) | apply Sb.drop)) h) hag rfl (by decide)) <| alz (cs := [.int .i64 0, .string ByteArray.empty, .int .i64 0, .int .i64 0, .int .i64 0, .slice none 0 0]) zt57 (by rfl) fun b5 => stAp sz57 rfl rfl rfl (by intro v hv; simp only [List.mem_cons, List.not_mem_nil, or_false] at hv; rcases hv with rfl | rfl | rfl | rfl | rfl | rfl <;> rfl) rfl <| WL.nil <| WX.thenN <| WC.seq <| WC.region <| sv (vfldp fl57f1 rfl) <| sv (vldc pl9 rfl) <| sv (vfldp fl57f2 rfl) <| sv (vldc pl3 rfl) <| sv (vfldp fl57f3 rfl) <| sv (vldap (i := 3) (cs := [.int .i64 ak, .int .i64 am]) ag46 sz46 rfl rfl rfl (by decide)) <| sv (vbd (ps := [(0, .int _ _), (3, .string _), (1, .int _ _), (4, .agg _)]) (cs := vcel 3 an 0 af ak am ⟨none, [], 0⟩) bt48 zt48 rfl (by rfl)) <| alz (cs := [.int .i64 0, .int .i64 0, .int .i64 0, .string ByteArray.empty, .int .i64 0, .int .i64 0, .slice none 0 0]) zt48 (by rfl) fun b11 => stAp sz48 rfl rfl rfl (by intro v hv; simp only [List.mem_cons, List.not_mem_nil, or_false] at hv; rcases hv with rfl | rfl | rfl | rfl | rfl | rfl | rfl <;> rfl) rfl <| WL.nil <| WX.thenN <| WC.seq <| ?_
    refine WC.cutvS (ι := Bool) (fun q => [(43, .bool (!q))]) [(0, .pointer _), (1, .pointer _), (5, .int _ _), (7, _)] (fun q => dv = dr → q = true) ⟨rfl, rfl, rfl, rfl, trivial⟩ ?_ ?_
    · -- law.go:88
      refine WC.region <| sv (vmP rfl) <| sv (vmP rfl) <| sv (vldac ag48 sz48 rfl rfl (by decide)) <| clx (by repeat' (first | with_reducible exact Sb.all | exact Sb.nil | (apply Sb.cons; focus (first | ((repeat (first | with_reducible exact Tk.here | with_reducible apply Tk.there)); done) | ((repeat (first | exact Tk.here | apply Tk.there)); done))) | apply Sb.drop)) (law_ask (l := l) (fl := fl) (b := ⟨none, [], 0⟩) (q := 0) hak hcv hi hN (fun x hx => (hB x hx).mono fun _ h => Sb.own (by repeat' (first | with_reducible exact Sb.all | exact Sb.nil | (apply Sb.cons; focus (first | ((repeat (first | with_reducible exact Tk.here | with_reducible apply Tk.there)); done) | ((repeat (first | exact Tk.here | apply Tk.there)); done))) | apply Sb.drop)) h)) ct26 rfl fun r14 hr14 => ?_
      refine svb (vnot rfl) (fun q1 => ?_) (fun q1 => ?_)
      ·
        exact sv (vmB rfl) <| sng rfl <| sng rfl <| sng rfl <| sng rfl <| sng rfl <| sv (vpkt rfl) <| WL.nil <| WX.mid (false) (fun hd => by rw [hr14 hd] at q1; cases q1) ⟨rfl, trivial⟩ ⟨rfl, rfl, rfl, rfl, trivial⟩ (fun _ h => Sb.own (by repeat' (first | with_reducible exact Sb.all | exact Sb.nil | (apply Sb.cons; focus (first | ((repeat (first | with_reducible exact Tk.here | with_reducible apply Tk.there)); done) | ((repeat (first | exact Tk.here | apply Tk.there)); done))) | apply Sb.drop)) h)
      ·
        refine sv (vmB rfl) <| svg rfl (vmP rfl) <| svg rfl (vmP rfl) <| svg rfl (vldac ag48 sz48 rfl rfl (by decide)) <| gy rfl <| clx (by repeat' (first | with_reducible exact Sb.all | exact Sb.nil | (apply Sb.cons; focus (first | ((repeat (first | with_reducible exact Tk.here | with_reducible apply Tk.there)); done) | ((repeat (first | exact Tk.here | apply Tk.there)); done))) | apply Sb.drop)) (law_ask (l := l) (fl := fl) (b := ⟨none, [], 0⟩) (q := 0) hak hcv hi hN (fun x hx => (hB x hx).mono fun _ h => Sb.own (by repeat' (first | with_reducible exact Sb.all | exact Sb.nil | (apply Sb.cons; focus (first | ((repeat (first | with_reducible exact Tk.here | with_reducible apply Tk.there)); done) | ((repeat (first | exact Tk.here | apply Tk.there)); done))) | apply Sb.drop)) h)) ct26 rfl fun r16 hr16 => ?_
        exact svg rfl (vnot rfl) <| sv (vpkf rfl) <| WL.nil <| WX.mid (r16) (hr16) ⟨rfl, trivial⟩ ⟨rfl, rfl, rfl, rfl, trivial⟩ (fun _ h => Sb.own (by repeat' (first | with_reducible exact Sb.all | exact Sb.nil | (apply Sb.cons; focus (first | ((repeat (first | with_reducible exact Tk.here | with_reducible apply Tk.there)); done) | ((repeat (first | exact Tk.here | apply Tk.there)); done))) | apply Sb.drop)) h)
    intro q hq ρh
    refine WC.iteb rfl (fun h2 => ?_) (fun h2 => ?_)
    · -- then
      exact WC.seq <| WC.region <| sv (vaB rfl) <| WL.nil <| WX.thenN <| WC.ret <| WX.thenR <| WX.blockR <| WX.thenR <| WX.thenR <| WX.blockR <| WX.thenR <| WX.ret1 rfl (false) (fun hd => by rw [hq hd] at h2; cases h2) rfl (fun _ h => Sb.own (by repeat' (first | with_reducible exact Sb.all | exact Sb.nil | (apply Sb.cons; focus (first | ((repeat (first | with_reducible exact Tk.here | with_reducible apply Tk.there)); done) | ((repeat (first | exact Tk.here | apply Tk.there)); done))) | apply Sb.drop)) h)
    · -- else
      refine WC.skip <| WX.thenN <| WC.seq <| WC.region <| sv (vfldpz fl48f0 rfl) <| stp (v := .int _ _) pl3 sz3 rfl rfl rfl <| WL.nil <| WX.thenN <| WC.seq <| WC.region <| sv (vmP rfl) <| sv (vmP rfl) <| sv (vldac ag48 sz48 rfl rfl (by decide)) <| clx (by repeat' (first | with_reducible exact Sb.all | exact Sb.nil | (apply Sb.cons; focus (first | ((repeat (first | with_reducible exact Tk.here | with_reducible apply Tk.there)); done) | ((repeat (first | exact Tk.here | apply Tk.there)); done))) | apply Sb.drop)) (law_ask (l := l) (fl := fl) (b := ⟨none, [], 0⟩) (q := 0) hak hcv hi hN (fun x hx => (hB x hx).mono fun _ h => Sb.own (by repeat' (first | with_reducible exact Sb.all | exact Sb.nil | (apply Sb.cons; focus (first | ((repeat (first | with_reducible exact Tk.here | with_reducible apply Tk.there)); done) | ((repeat (first | exact Tk.here | apply Tk.there)); done))) | apply Sb.drop)) h)) ct26 rfl fun r19 hr19 => ?_
      refine sv (vnot rfl) <| WL.nil <| WX.thenN <| ?_
      refine WC.iteb rfl (fun h3 => ?_) (fun h3 => ?_)
      · -- then
        exact WC.seq <| WC.region <| sv (vaB rfl) <| WL.nil <| WX.thenN <| WC.ret <| WX.blockR <| WX.thenR <| WX.thenR <| WX.blockR <| WX.thenR <| WX.ret1 rfl (false) (fun hd => by rw [hr19 hd] at h3; cases h3) rfl (fun _ h => Sb.own (by repeat' (first | with_reducible exact Sb.all | exact Sb.nil | (apply Sb.cons; focus (first | ((repeat (first | with_reducible exact Tk.here | with_reducible apply Tk.there)); done) | ((repeat (first | exact Tk.here | apply Tk.there)); done))) | apply Sb.drop)) h)
      · -- else
        exact WC.skip <| WX.blockN <| WX.thenN <| WC.region <| sv (vmI rfl) <| sv (vadd rfl rfl (by omega)) <| sv (vaI rfl) <| WL.nil <| WX.again (i + 1) (by omega) (by omega) ⟨rfl, trivial⟩ ⟨rfl, rfl, trivial⟩ (fun _ h => Sb.own (by repeat' (first | with_reducible exact Sb.all | exact Sb.nil | (apply Sb.cons; focus (first | ((repeat (first | with_reducible exact Tk.here | with_reducible apply Tk.there)); done) | ((repeat (first | exact Tk.here | apply Tk.there)); done))) | apply Sb.drop)) h)
  · -- else
    refine WC.exit <| WX.thenE <| WX.thenE <| WX.blockH <| WX.thenN <| WC.seq <| WC.seq <| WC.region <| sv (vaI rfl) <| WL.nil <| WX.thenN <| WC.block <| ?_
    refine WC.loopS (ι := Nat) (fun i => [(8, .int .i64 i)]) [(0, .pointer _), (1, .pointer _)] (fun i => i ≤ fl.length) (fun i => fl.length - i) (0) (by omega) ⟨rfl, trivial⟩ ⟨rfl, rfl, trivial⟩ ?_
    intro i hii ρh
    refine WC.seq <| WC.seq <| WC.region <| sv (vmI rfl) <| sv (vmP rfl) <| sv (vnil rfl) <| sv (vfldp fl53f1 rfl) <| sv (vldc pl50 rfl) <| sv (vlen Tryz.underlying50 rfl) <| sv (vlt rfl rfl) <| WL.nil <| WX.thenN <| ?_
    refine WC.ite rfl (fun h4 => ?_) (fun h4 => ?_)
    · -- then
      have hil : i < fl.length := by omega
      obtain ⟨a, ha⟩ : ∃ a, fl[i]? = some a := ⟨_, List.getElem?_eq_getElem hil⟩
      have hpos : 0 < (fla flC fl).length := by omega
      refine WC.known (fun w h => rsomeV (base := fb) hpos hR2.rd.cons h) fun hb => ?_
      have hf1 := fla6 flC_len ha 1 (by omega)
      have hak := fl_ok (hi.fok a (List.mem_of_getElem? ha))
      refine WC.skip <| WX.thenN <| WC.seq <| WC.block <| WC.seq <| WC.region <| sv (vmP rfl) <| sv (vmP rfl) <| sv (vmP rfl) <| sv (vnil rfl) <| sv (vfldp fl53f1 rfl) <| sv (vldc pl50 rfl) <| sv (vmI rfl) <| sv (vix Tryz.underlying50 sz57 rfl rfl (by omega) (by omega) reads (hpos)) <| sv (vfldr (hb) fl57f1 rfl) <| sv (vldo pl9 rfl reads (hf1)) <| sv (vbd (ps := [(0, .int _ _), (3, .string _)]) (cs := vcel 5 0 0 a.1 0 0 ⟨none, [], 0⟩) bt48 zt48 rfl (by rfl)) <| clx (by repeat' (first | with_reducible exact Sb.all | exact Sb.nil | (apply Sb.cons; focus (first | ((repeat (first | with_reducible exact Tk.here | with_reducible apply Tk.there)); done) | ((repeat (first | exact Tk.here | apply Tk.there)); done))) | apply Sb.drop)) (law_ask (l := l) (fl := fl) (b := ⟨none, [], 0⟩) (q := 0) hak hcv hi hN (fun x hx => (hB x hx).mono fun _ h => Sb.own (by repeat' (first | with_reducible exact Sb.all | exact Sb.nil | (apply Sb.cons; focus (first | ((repeat (first | with_reducible exact Tk.here | with_reducible apply Tk.there)); done) | ((repeat (first | exact Tk.here | apply Tk.there)); done))) | apply Sb.drop)) h)) ct26 rfl fun r26 hr26 => ?_
      refine sv (vnot rfl) <| WL.nil <| WX.thenN <| ?_
      refine WC.iteb rfl (fun h5 => ?_) (fun h5 => ?_)
      · -- then
        exact WC.seq <| WC.region <| sv (vaB rfl) <| WL.nil <| WX.thenN <| WC.ret <| WX.blockR <| WX.thenR <| WX.thenR <| WX.blockR <| WX.thenR <| WX.ret1 rfl (false) (fun hd => by rw [hr26 hd] at h5; cases h5) rfl (fun _ h => Sb.own (by repeat' (first | with_reducible exact Sb.all | exact Sb.nil | (apply Sb.cons; focus (first | ((repeat (first | with_reducible exact Tk.here | with_reducible apply Tk.there)); done) | ((repeat (first | exact Tk.here | apply Tk.there)); done))) | apply Sb.drop)) h)
      · -- else
        exact WC.skip <| WX.blockN <| WX.thenN <| WC.region <| sv (vmI rfl) <| sv (vadd rfl rfl (by omega)) <| sv (vaI rfl) <| WL.nil <| WX.again (i + 1) (by omega) (by omega) ⟨rfl, trivial⟩ ⟨rfl, rfl, trivial⟩ (fun _ h => Sb.own (by repeat' (first | with_reducible exact Sb.all | exact Sb.nil | (apply Sb.cons; focus (first | ((repeat (first | with_reducible exact Tk.here | with_reducible apply Tk.there)); done) | ((repeat (first | exact Tk.here | apply Tk.there)); done))) | apply Sb.drop)) h)
    · -- else
      exact WC.exit <| WX.thenE <| WX.thenE <| WX.blockH <| WX.thenN <| WC.seq <| WC.region <| sv (vaB rfl) <| WL.nil <| WX.thenN <| WC.ret <| WX.ret1 rfl (true) (fun _ => rfl) rfl (fun _ h => Sb.own (by repeat' (first | with_reducible exact Sb.all | exact Sb.nil | (apply Sb.cons; focus (first | ((repeat (first | with_reducible exact Tk.here | with_reducible apply Tk.there)); done) | ((repeat (first | exact Tk.here | apply Tk.there)); done))) | apply Sb.drop)) h)
/-- the same, of a document's vault as one chunk -/
theorem law_isv {w0 : World} {A : List HProp} {v j r w N : Nat} {dn : Bool} {dv dr : VD} (hcv : Cnt dv) (hN : N ≤ 134217728) :
    Fun Tryz.prog w0 13 [.pointer (some ⟨v, 0, none⟩), .pointer (some ⟨r, 0, none⟩)] (pv v j dn dv :: rv r w N dr :: A) (Ret w0 (fun b : Bool => dv = dr → b = true) (fun b => .bool b) (fun _ => pv v j dn dv :: rv r w N dr :: A)) := by
  refine Fun.ex (fun w h => rv_open h.pk1) ?_
  rintro ⟨l, fl, lb, lc, fb, fc⟩ hi
  dsimp only [rvc]
  refine Fun.perm (A' := pv v j dn dv :: cel r [.slice lb l.length lc, .slice fb fl.length fc, .pointer (some ⟨w, 0, none⟩)] 53 :: row lb lc 6 57 (fla callC l) :: row fb fc 6 57 (fla flC fl) :: rows 5 (l.map Prod.snd) :: A) ?_ (fun w h => Sb.own (by repeat' (first | with_reducible exact Sb.all | exact Sb.nil | (apply Sb.cons; focus (first | ((repeat (first | with_reducible exact Tk.here | with_reducible apply Tk.there)); done) | ((repeat (first | exact Tk.here | apply Tk.there)); done))) | apply Sb.drop)) h)
  refine (law_is hcv hi hN fun x hx => RdC.of_rows (e := 5) (l := l.map Prod.snd) (by simp) (List.mem_map.2 ⟨x, hx, rfl⟩)).mono fun e w ⟨i, h1, he, hO⟩ => ⟨i, h1, he, ?_⟩
  have h2 := rv_mk hi (Own.sp4 (by repeat' (first | exact Spl.nil | (apply Spl.cons; focus (first | ((repeat (first | with_reducible exact Tk.here | with_reducible apply Tk.there)); done) | ((repeat (first | exact Tk.here | apply Tk.there)); done))))) hO)
  exact Sb.own (by repeat' (first | with_reducible exact Sb.all | exact Sb.nil | (apply Sb.cons; focus (first | ((repeat (first | with_reducible exact Tk.here | with_reducible apply Tk.there)); done) | ((repeat (first | exact Tk.here | apply Tk.there)); done))) | apply Sb.drop)) h2
theorem law_askv {w0 : World} {A : List HProp} {v j r w N : Nat} {dn : Bool} {dv dr : VD} {kind n q pk pn : Int} {f : ByteArray} {b : Sla UInt8} (hk : PkOk ⟨f, n, pk, pn⟩) (hcv : Cnt dv) (hN : N ≤ 134217728) :
    Fun Tryz.prog w0 26 [.pointer (some ⟨v, 0, none⟩), .pointer (some ⟨r, 0, none⟩), .agg (vcel kind n q f pk pn b).toArray] (pv v j dn dv :: rv r w N dr :: A) (Ret w0 (fun b : Bool => dv = dr → b = true) (fun b => .bool b) (fun _ => pv v j dn dv :: rv r w N dr :: A)) := by
  refine Fun.ex (fun w h => rv_open h.pk1) ?_
  rintro ⟨l, fl, lb, lc, fb, fc⟩ hi
  dsimp only [rvc]
  refine Fun.perm (A' := pv v j dn dv :: cel r [.slice lb l.length lc, .slice fb fl.length fc, .pointer (some ⟨w, 0, none⟩)] 53 :: row lb lc 6 57 (fla callC l) :: row fb fc 6 57 (fla flC fl) :: rows 5 (l.map Prod.snd) :: A) ?_ (fun w h => Sb.own (by repeat' (first | with_reducible exact Sb.all | exact Sb.nil | (apply Sb.cons; focus (first | ((repeat (first | with_reducible exact Tk.here | with_reducible apply Tk.there)); done) | ((repeat (first | exact Tk.here | apply Tk.there)); done))) | apply Sb.drop)) h)
  refine (law_ask hk hcv hi hN fun x hx => RdC.of_rows (e := 5) (l := l.map Prod.snd) (by simp) (List.mem_map.2 ⟨x, hx, rfl⟩)).mono fun e w ⟨i, h1, he, hO⟩ => ⟨i, h1, he, ?_⟩
  have h2 := rv_mk hi (Own.sp4 (by repeat' (first | exact Spl.nil | (apply Spl.cons; focus (first | ((repeat (first | with_reducible exact Tk.here | with_reducible apply Tk.there)); done) | ((repeat (first | exact Tk.here | apply Tk.there)); done))))) hO)
  exact Sb.own (by repeat' (first | with_reducible exact Sb.all | exact Sb.nil | (apply Sb.cons; focus (first | ((repeat (first | with_reducible exact Tk.here | with_reducible apply Tk.there)); done) | ((repeat (first | exact Tk.here | apply Tk.there)); done))) | apply Sb.drop)) h2
theorem v_open_no {w0 : World} {A : List HProp} {dk : Nat} {st st' : DSt} {e : Int} (hd : 0 ≤ st.deeds ∧ st.deeds + 1 ≤ 9223372036854775807) (ho : openS vnm st = (st', e)) (h : e = 0 → redoA (recsB (readS vnm st).1).1 VD.new = none) (hfile : (readS vnm st).1.length ≤ 16777216) : Fun Tryz.prog w0 10 [.pointer (some ⟨dk, 0, none⟩)] (pdisk dk st :: A) (Ret w0 (fun _ : Unit => True) (fun _ => .tuple #[.pointer none, .int .i64 (if e = 0 then 4 else 20)]) (fun _ => pdisk dk st' :: A)) := by
  by_cases he : e = 0
  · subst he
    refine (v_open_ok hd ho hfile).mono fun e w ⟨i, h1, he, hO⟩ => ?_
    rw [h rfl] at h1
    cases i with
    | none => exact ⟨(), trivial, he, hO⟩
    | some x => cases h1
  · rw [if_neg he]; exact v_open_err hd ho he
theorem v_open_some {w0 : World} {A : List HProp} {dk : Nat} {st st' : DSt} {d : VD} (hd : 0 ≤ st.deeds ∧ st.deeds + 1 ≤ 9223372036854775807) (ho : openS vnm st = (st', 0)) (h : redoA (recsB (readS vnm st).1).1 VD.new = some d) (hfile : (readS vnm st).1.length ≤ 16777216) : Fun Tryz.prog w0 10 [.pointer (some ⟨dk, 0, none⟩)] (pdisk dk st :: A) (Ret w0 (fun _ : Nat × Nat => True) (fun i => .tuple #[.pointer (some ⟨i.1, 0, none⟩), .int .i64 0]) (fun i => vall i.1 i.2 dk d ⟨st', (recsB (readS vnm st).1).1.length, false⟩ A)) := by
  refine (v_open_ok hd ho hfile).mono fun e w ⟨i, h1, he, hO⟩ => ?_
  rw [h] at h1
  cases i with
  | none => cases h1
  | some x => obtain ⟨v, j, d'⟩ := x; cases h1; exact ⟨(v, j), trivial, he, hO⟩
theorem ref_open_no16 {w0 : World} {A : List HProp} {rd M : Nat} {st st' : DSt} {e : Int} (hM : M ≤ 134217728) (hd : 0 ≤ st.deeds ∧ st.deeds + 1 ≤ 9223372036854775807) (ho : openS vnm st = (st', e)) (h : e = 0 → redoA (recsB (readS vnm st).1).1 VD.new = none) (hfile : (readS vnm st).1.length ≤ 16777216) : Fun Tryz.prog w0 11 [.pointer (some ⟨rd, 0, none⟩)] (rdisk rd M st :: A) (Ret w0 (fun _ : Unit => True) (fun _ => .tuple #[.pointer none, .int .i64 (if e = 0 then 4 else 20)]) (fun _ => rdisk rd M st' :: A)) := by
  by_cases he : e = 0
  · subst he
    refine (ref_open16_ok hM hd ho hfile).mono fun e w ⟨i, h1, he, hO⟩ => ?_
    rw [h rfl] at h1
    cases i with
    | none => exact ⟨(), trivial, he, hO⟩
    | some x => cases h1
  · rw [if_neg he]; exact ref_open16_err hM hd ho he hfile
theorem ref_open_some16 {w0 : World} {A : List HProp} {rd M : Nat} {st st' : DSt} {d : VD} (hM : M ≤ 134217728) (hd : 0 ≤ st.deeds ∧ st.deeds + 1 ≤ 9223372036854775807) (ho : openS vnm st = (st', 0)) (h : redoA (recsB (readS vnm st).1).1 VD.new = some d) (hfile : (readS vnm st).1.length ≤ 16777216) : Fun Tryz.prog w0 11 [.pointer (some ⟨rd, 0, none⟩)] (rdisk rd M st :: A) (Ret w0 (fun _ : Nat × Nat => True) (fun i => .tuple #[.pointer (some ⟨i.1, 0, none⟩), .int .i64 0]) (fun i => rv i.1 i.2 (recsB (readS vnm st).1).1.length d :: cel i.2 (wcells rd vnm (recsB (readS vnm st).1).1.length false) 100 :: rdisk rd M st' :: A)) := by
  refine (ref_open16_ok hM hd ho hfile).mono fun e w ⟨i, h1, he, hO⟩ => ?_
  rw [h] at h1
  cases i with
  | none => cases h1
  | some x => obtain ⟨v, j, d'⟩ := x; cases h1; exact ⟨(v, j), trivial, he, hO⟩
theorem putW_cnt {k : PK} {b : List UInt8} {d : VD} (h : Cnt d) : Cnt (putW k b d) := fun q hq => by
  unfold putW at hq
  split at hq
  · rename_i h2
    have hq' : (if q = k then some b else d.parts q).isSome = true := hq
    by_cases e : q = k
    · subst e
      unfold whyPut at h2
      split at h2
      · cases h2
      · split at h2
        · cases h2
        · rename_i hc; exact (Decidable.not_not.1 hc).1
    · rw [if_neg e] at hq'; exact h q hq'
  · exact h q hq
theorem dropD_cnt {f : ByteArray} {n : Int} {d : VD} (h : Cnt d) : Cnt (dropD d f n) := fun k hk => by
  have hk' : (if k.flow = f ∧ k.num < n then none else d.parts k).isSome = true := hk
  by_cases e : k.flow = f ∧ k.num < n
  · rw [if_pos e] at hk'; cases hk'
  · rw [if_neg e] at hk'; exact h k hk'
theorem cnt_new : Cnt VD.new := fun k h => absurd h (by show ¬ (none : Option (List UInt8)).isSome = true; decide)
theorem cnt_redo {b : List UInt8} {d d' : VD} (h : Cnt d) (hr : redoP b d = some d') : Cnt d' := by
  unfold redoP at hr
  cases hc : readP b with
  | none => rw [hc] at hr; cases hr
  | some c =>
    rw [hc] at hr
    cases c with
    | put k x =>
      have hr' : (if (whyPut d k).1 = 0 then some (putW k x d) else none) = some d' := hr
      split at hr'
      · cases hr'; exact putW_cnt h
      · cases hr'
    | drop f n =>
      have hr' : (if (whyDrop d f n).1 = 0 then some (dropW f n d) else none) = some d' := hr
      split at hr'
      · cases hr'; unfold dropW; split
        · exact dropD_cnt h
        · exact h
      · cases hr'
theorem cnt_redoA : ∀ {l : List (List UInt8)} {d d' : VD}, Cnt d → redoA l d = some d' → Cnt d'
  | [], d, d', h, hr => by cases hr; exact h
  | b :: l, d, d', h, hr => by
    have hr' : (redoP b d).bind (fun d => redoA l d) = some d' := by unfold redoA at hr ⊢; rw [List.foldlM_cons] at hr; exact hr
    cases hb : redoP b d with
    | none => rw [hb] at hr'; cases hr'
    | some d1 => rw [hb] at hr'; exact cnt_redoA (cnt_redo h hb) hr'
theorem actS_bounds {w : Int × Bool} {rec : List UInt8} {d' d : VD} {s : JV} : s.st.deeds ≤ (actS w rec d' d s).1.2.st.deeds ∧ (actS w rec d' d s).1.2.st.deeds ≤ s.st.deeds + 2 ∧ s.n ≤ (actS w rec d' d s).1.2.n ∧ (actS w rec d' d s).1.2.n ≤ s.n + 1 := by
  have hb := addP_deeds vnm rec s.st
  unfold actS
  split
  · dsimp only; omega
  · split
    · dsimp only; omega
    · split
      · dsimp only; omega
      · dsimp only; split <;> omega
theorem callL_bounds {kind : Int} {k : PK} {b : List UInt8} {d : VD} {s : JV} : s.st.deeds ≤ (callL kind k b d s).1.2.st.deeds ∧ (callL kind k b d s).1.2.st.deeds ≤ s.st.deeds + 2 ∧ s.n ≤ (callL kind k b d s).1.2.n ∧ (callL kind k b d s).1.2.n ≤ s.n + 1 := by
  unfold callL; split <;> exact actS_bounds
theorem callL_cnt {kind : Int} {k : PK} {b : List UInt8} {d : VD} {s : JV} (h : Cnt d) : Cnt (callL kind k b d s).1.1 := by
  unfold callL dropS putS actS
  split
  · split
    · exact h
    · split
      · exact h
      · split
        · exact h
        · dsimp only; split
          · exact dropD_cnt h
          · exact h
  · split
    · exact h
    · split
      · exact h
      · split
        · exact h
        · rename_i h2
          dsimp only; split
          · have := putW_cnt (k := k) (b := b) h
            unfold putW at this
            rwa [if_pos (by simpa using h2)] at this
          · exact h
theorem rdisk_new16 {w0 w : World} {A : List HProp} {r : Nat} (h : Own w0 (cel r [.slice none 0 0, .bool false, .int .i64 0, .int .i64 0, .int .i64 0] 29 :: A) w) : Own w0 (rdisk r 0 newD :: A) w :=
  rdisk_mk (l := []) (base := none) (c := 0) RRep.new ⟨Nat.le_refl _, Nat.le_refl _⟩ ((Own.intro_row_nil (Own.intro_emp h)).ix [2, 0, 1])
theorem vopen_new : openS vnm newD = (newD, 0) := by
  have h1 : readS vnm newD = ([], 21) := rfl
  unfold openS
  rw [if_neg (by decide), if_neg (fun h => h vnm_ok), h1]
  dsimp only
  rw [recsB_nil, if_pos rfl]
theorem vrecs_new : (recsB (readS vnm newD).1).1 = [] := by
  have h1 : readS vnm newD = ([], 21) := rfl
  rw [h1, recsB_nil]
end Go.Proofs.YthljpljbpbkkcaaGreatDoor
end
section
set_option linter.unusedVariables false
set_option linter.unusedSimpArgs false
set_option maxRecDepth 4000
namespace Go.Proofs.YthljpljbpbkkcaaGreatDoor
open Go.Sl Go.RowKit Go.Pack Go.Vault Go.Journal

structure VdI where
  k : Nat
  v : Nat
  j : Nat
  r : Nat
  w : Nat
  N : Nat
  M : Nat
  d : VD
  s : JV
structure VdR (m : Nat) (i : VdI) : Prop where
  k : i.k ≤ m
  N : i.N ≤ 16777216 + i.k
  M : i.M ≤ i.k
  deeds : 0 ≤ i.s.st.deeds ∧ i.s.st.deeds ≤ 2 * i.k
  n : 0 ≤ i.s.n ∧ i.s.n ≤ 16777216 + i.k
  cnt : Cnt i.d
theorem pdisk_lenO {w0 w : World} {d : Nat} {st : DSt} {A : List HProp} {nm : ByteArray} (h : Own w0 (pdisk d st :: A) w) : (readS nm { st with off := false }).1.length ≤ 16777216 := by
  obtain ⟨⟨m, l⟩, hr, _⟩ := pdisk_open h
  unfold readS
  rw [if_neg Bool.false_ne_true]
  dsimp only
  cases hf : st.files nm with
  | none => simp
  | some v =>
    obtain ⟨j, x, hj, rfl, rfl⟩ := hr.at hf
    exact (hr.ok x (List.mem_of_getElem? hj)).2
theorem law_does16 {w0 : World} {A : List HProp} {o : Sla AV} (ho : Rd w0 o.base (o.xs.flatMap cellV)) (hx : ∀ a ∈ o.xs, gV w0 a ∧ a.2.1 ≤ 9223372036854775807) :
    Fun Tryz.prog w0 5 [.slice o.base o.xs.length o.cap] A (Ret w0 (fun _ : Unit => True) (fun _ => .bool true) (fun _ => A)) := by
  have hfl : (o.xs.flatMap cellV).length = o.xs.length * 7 := flat_len (fun _ _ => rfl)
  refine Fun.enter Tryz.func5 rfl Tryz.ntmps5 rfl ?_
  refine WC.seq <| WC.region <| sv (vaB rfl) <| WL.nil <| WX.thenN <| WC.seq <| WC.seq <| WC.region <| sv (vmS rfl) <| clx (by repeat' (first | with_reducible exact Sb.all | exact Sb.nil | (apply Sb.cons; focus (first | ((repeat (first | with_reducible exact Tk.here | with_reducible apply Tk.there)); done) | ((repeat (first | exact Tk.here | apply Tk.there)); done))) | apply Sb.drop)) (law_small ho) ct14 rfl fun r1 hr1 => ?_
  refine sv (vnot rfl) <| WL.nil <| WX.thenN <| ?_
  refine WC.iteb rfl (fun h1 => ?_) (fun h1 => ?_)
  · -- then
    exact WC.seq <| WC.region <| sv (vaB rfl) <| WL.nil <| WX.thenN <| WC.ret <| WX.thenR <| WX.ret1 rfl (()) (trivial) rfl (fun _ h => Sb.own (by repeat' (first | with_reducible exact Sb.all | exact Sb.nil | (apply Sb.cons; focus (first | ((repeat (first | with_reducible exact Tk.here | with_reducible apply Tk.there)); done) | ((repeat (first | exact Tk.here | apply Tk.there)); done))) | apply Sb.drop)) h)
  · -- else
    have hsm : o.xs.length ≤ 120 ∧ ∀ a ∈ o.xs, a.b.xs.length ≤ 256 ∧ a.k.flow.size ≤ 64 := by simpa using h1
    refine WC.skip <| WX.thenN <| WC.seq <| WC.region <| clx (by repeat' (first | with_reducible exact Sb.all | exact Sb.nil | (apply Sb.cons; focus (first | ((repeat (first | with_reducible exact Tk.here | with_reducible apply Tk.there)); done) | ((repeat (first | exact Tk.here | apply Tk.there)); done))) | apply Sb.drop)) (disk_new) ct6 rfl fun r2 hr2 => ?_
    refine sv (vaP rfl) <| WL.nil <| WX.thenN <| WC.seq <| WC.region <| sv (vbd (ps := []) (cs := [_, _, _, _, _]) bt29 zt29 rfl (by rfl)) <| bxc (v := .agg _) (cs := [.slice _ _ _, .bool _, .int _ _, .int _ _, .int _ _]) rfl rfl fun b4 => sv (vaP rfl) <| WL.nil <| WX.thenN <| WC.seq <| WC.region <| sv (vmP rfl) <| clx (by repeat' (first | with_reducible exact Sb.all | exact Sb.nil | (apply Sb.cons; focus (first | ((repeat (first | with_reducible exact Tk.here | with_reducible apply Tk.there)); done) | ((repeat (first | exact Tk.here | apply Tk.there)); done))) | apply Sb.drop)) (v_open_some (d := VD.new) (st := newD) (by decide) vopen_new (by rw [vrecs_new]; rfl) (by decide)) ct10 rfl fun r5 hr5 => ?_
    refine sv vmv <| sv (vex rfl rfl) <| sv (vex rfl rfl) <| sv (vaP rfl) <| sv (vaI rfl) <| WL.nil <| WX.thenN <| WC.seq <| WC.region <| sv (vmP rfl) <| pm (fun _ h => (show Own w0 (rdisk b4 0 newD :: vall r5.1 r5.2 r2 VD.new ⟨newD, (recsB (readS vnm newD).1).1.length, false⟩ A) _ from by have h2 := rdisk_new16 (Own.sp1 (by repeat' (first | exact Spl.nil | (apply Spl.cons; focus (first | ((repeat (first | with_reducible exact Tk.here | with_reducible apply Tk.there)); done) | ((repeat (first | exact Tk.here | apply Tk.there)); done))))) h); exact Sb.own (by repeat' (first | with_reducible exact Sb.all | exact Sb.nil | (apply Sb.cons; focus (first | ((repeat (first | with_reducible exact Tk.here | with_reducible apply Tk.there)); done) | ((repeat (first | exact Tk.here | apply Tk.there)); done))) | apply Sb.drop)) h2)) <| clx (by repeat' (first | with_reducible exact Sb.all | exact Sb.nil | (apply Sb.cons; focus (first | ((repeat (first | with_reducible exact Tk.here | with_reducible apply Tk.there)); done) | ((repeat (first | exact Tk.here | apply Tk.there)); done))) | apply Sb.drop)) (ref_open_some16 (d := VD.new) (st := newD) (by decide) (by decide) vopen_new (by rw [vrecs_new]; rfl) (by decide)) ct11 rfl fun r6 hr6 => ?_
    refine sv vmv <| sv (vex rfl rfl) <| sv (vex rfl rfl) <| sv (vaP rfl) <| sv (vaI rfl) <| WL.nil <| WX.thenN <| WC.seq <| ?_
    refine WC.cutS [(37, .bool false)] [(0, .slice _ _ _), (3, .pointer _), (4, .pointer _), (5, .pointer _), (7, .pointer _)] ⟨rfl, rfl, rfl, rfl, rfl, trivial⟩ ?_ fun ρh => ?_
    · -- law.go:139
      exact WC.region <| sv (vmP rfl) <| sv (vpeqF Tryz.underlying33 rfl rfl) <| sv (vmB rfl) <| svg rfl (vmI rfl) <| svg rfl (vmI rfl) <| svg rfl (vne rfl rfl) <| sv (vpkf rfl) <| WL.nil <| WX.mid () trivial ⟨rfl, trivial⟩ ⟨rfl, rfl, rfl, rfl, rfl, trivial⟩ (fun _ h => Sb.own (by repeat' (first | with_reducible exact Sb.all | exact Sb.nil | (apply Sb.cons; focus (first | ((repeat (first | with_reducible exact Tk.here | with_reducible apply Tk.there)); done) | ((repeat (first | exact Tk.here | apply Tk.there)); done))) | apply Sb.drop)) h)
    refine WC.ff rfl ?_
    refine WC.skip <| WX.thenN <| WC.seq <| WC.seq <| WC.region <| sv (vaI rfl) <| WL.nil <| WX.thenN <| WC.block <| ?_
    refine WC.loop (ι := VdI) (fun i => [(5, .pointer (some ⟨i.v, 0, none⟩)), (7, .pointer (some ⟨i.r, 0, none⟩)), (9, .int .i64 i.k)]) [(0, .slice _ _ _), (3, .pointer _), (4, .pointer _)] (fun i => vall i.v i.j r2 i.d i.s (rv i.r i.w i.N i.d :: cel i.w (wcells b4 vnm i.s.n i.s.sick) 100 :: rdisk b4 i.M i.s.st :: A)) (fun i => VdR o.xs.length i) (fun i => o.xs.length - i.k) (⟨0, r5.1, r5.2, r6.1, r6.2, 0, 0, VD.new, ⟨newD, 0, false⟩⟩) (⟨Nat.zero_le _, by simp, by simp, by simp [newD], by simp, cnt_new⟩) ⟨rfl, rfl, rfl, trivial⟩ ⟨rfl, rfl, rfl, trivial⟩ (fun w h => by rw [vrecs_new] at h; exact Sb.own (by repeat' (first | with_reducible exact Sb.all | exact Sb.nil | (apply Sb.cons; focus (first | ((repeat (first | with_reducible exact Tk.here | with_reducible apply Tk.there)); done) | ((repeat (first | exact Tk.here | apply Tk.there)); done))) | apply Sb.drop)) h) ?_
    rintro ⟨k, v, j, r, w, N, M, d, s⟩ ⟨v1, v2, v3, v4, v5, v6⟩ ρh
    dsimp only at v1 v2 v3 v4 v5 v6 ⊢
    refine WC.seq <| WC.seq <| WC.region <| sv (vmI rfl) <| sv (vmS rfl) <| sv (vlen Tryz.underlying42 rfl) <| sv (vlt rfl rfl) <| WL.nil <| WX.thenN <| ?_
    refine WC.ite rfl (fun h3 => ?_) (fun h3 => ?_)
    · -- then
      have hil : k < o.xs.length := by omega
      obtain ⟨a, ha⟩ : ∃ a, o.xs[k]? = some a := ⟨_, List.getElem?_eq_getElem hil⟩
      have hag : gV w0 a ∧ a.2.1 ≤ 9223372036854775807 := hx a (List.mem_of_getElem? ha)
      have hal := hsm.2 a (List.mem_of_getElem? ha)
      have hpos : 0 < (o.xs.flatMap cellV).length := by omega
      have hac : ((o.xs.flatMap cellV).drop (((k : Int)).toNat * 7)).take 7 = cellV a := by rw [Int.toNat_natCast, flat_take (f := cellV) (s := 7) (fun _ _ => rfl) hil, (List.getElem?_eq_some_iff.1 ha).2]
      obtain ⟨ki, an, aq, af, ⟨ap, am, u1⟩, ab, u2⟩ := a
      dsimp only [AV.k, AV.b, gV] at hag hal
      obtain ⟨⟨hpk, hrd⟩, hfu⟩ := hag
      refine WC.skip <| WX.thenN <| WC.seq <| WC.block <| WC.seq <| WC.region <| sv (vmS rfl) <| sv (vmI rfl) <| sv (vix Tryz.underlying42 sz48 rfl rfl (by omega) (by omega) (RdC.old ho) hpos) <| sv (vlda ag48 sz48 rfl (RdC.old ho) hac rfl (by decide)) <| alz (cs := [.int .i64 0, .int .i64 0, .int .i64 0, .string ByteArray.empty, .int .i64 0, .int .i64 0, .slice none 0 0]) zt48 (by rfl) fun b10 => stAp sz48 rfl rfl rfl (by intro v hv; simp only [List.mem_cons, List.not_mem_nil, or_false] at hv; rcases hv with rfl | rfl | rfl | rfl | rfl | rfl | rfl <;> rfl) rfl <| WL.nil <| WX.thenN <| ?_
      refine WC.cutv (ι := VdI) (fun i => [(5, .pointer (some ⟨i.v, 0, none⟩)), (7, .pointer (some ⟨i.r, 0, none⟩))]) [(0, .slice _ _ _), (3, .pointer _), (4, .pointer _), (9, .int _ _)] (fun i => vall i.v i.j r2 i.d i.s (rv i.r i.w i.N i.d :: cel i.w (wcells b4 vnm i.s.n i.s.sick) 100 :: rdisk b4 i.M i.s.st :: A)) (fun i => i.k = k + 1 ∧ VdR (k + 1) i) ⟨rfl, rfl, rfl, rfl, trivial⟩ ?_ ?_
      · -- up to the join
        refine WC.seq <| WC.region <| sv (vfldpz fl48f0 rfl) <| sv (vldc pl3 rfl) <| WL.nil <| WX.thenN <| WC.block <| ?_
        refine WC.cutvS (ι := Unit) (fun i => [(55, .bool (decide (ki = 1 ∨ ki = 2)))]) [(0, .slice _ _ _), (3, .pointer _), (4, .pointer _), (5, .pointer _), (7, .pointer _), (9, .int _ _), (10, _), (49, .int _ _)] (fun i => True) ⟨rfl, rfl, rfl, rfl, rfl, rfl, rfl, rfl, trivial⟩ ?_ ?_
        · -- up to the join
          refine WC.seq <| WC.region <| sv (veq rfl rfl) <| sv (vaB rfl) <| WL.nil <| WX.thenN <| ?_
          refine WC.ite rfl (fun h4 => ?_) (fun h4 => ?_)
          · -- then
            exact WC.skip <| WX.mid (()) (trivial) ⟨(bI (E := ki = 1 ∨ ki = 2) ⟨fun _ => Or.inl h4, fun _ => h4⟩), trivial⟩ ⟨rfl, rfl, rfl, rfl, rfl, rfl, rfl, rfl, trivial⟩ (fun _ h => Sb.own (by repeat' (first | with_reducible exact Sb.all | exact Sb.nil | (apply Sb.cons; focus (first | ((repeat (first | with_reducible exact Tk.here | with_reducible apply Tk.there)); done) | ((repeat (first | exact Tk.here | apply Tk.there)); done))) | apply Sb.drop)) h)
          · -- else
            exact WC.region <| sv (veq rfl rfl) <| sv (vaB rfl) <| WL.nil <| WX.mid (()) (trivial) ⟨(bI (E := ki = 1 ∨ ki = 2) ⟨fun h => Or.inr h, fun h => h.resolve_left h4⟩), trivial⟩ ⟨rfl, rfl, rfl, rfl, rfl, rfl, rfl, rfl, trivial⟩ (fun _ h => Sb.own (by repeat' (first | with_reducible exact Sb.all | exact Sb.nil | (apply Sb.cons; focus (first | ((repeat (first | with_reducible exact Tk.here | with_reducible apply Tk.there)); done) | ((repeat (first | exact Tk.here | apply Tk.there)); done))) | apply Sb.drop)) h)
        · -- behind the join
          intro i hi ρh
          refine WC.ite rfl (fun h5 => ?_) (fun h5 => ?_)
          · -- then
            have hcb := callL_bounds (kind := ki) (k := ⟨af, an, ap, am⟩) (b := ab.xs) (d := d) (s := s)
            have hcc := callL_cnt (kind := ki) (k := ⟨af, an, ap, am⟩) (b := ab.xs) (s := s) v6
            have hcs := callS_of (k := ⟨af, an, ap, am⟩) (b := ab) (d := d) (s := s) h5
            obtain ⟨P, hP⟩ : ∃ P, P = callL ki ⟨af, an, ap, am⟩ ab.xs d s := ⟨_, rfl⟩
            rw [← hP] at hcb hcc hcs
            refine WC.seq <| WC.plan (.pre [0, 1] (.one [3, 4] 2 (.bar [5] 6 (.done [7])))) rfl (by kernel_rfl) <| WPl.preC <| dv (fun g => (vmP rfl)) <| dv (fun g => (vldac ag48 sz48 rfl rfl (by decide))) <| WD.nil <| WPl.oneX [pv v j s.sick d, cel j _ _, pdisk r2 s.st] (by repeat' (first | exact Spl.nil | (apply Spl.cons; focus (first | ((repeat (first | with_reducible exact Tk.here | with_reducible apply Tk.there)); done) | ((repeat (first | exact Tk.here | apply Tk.there)); done))))) (fun g => by infer_instance) ?_
            refine dv (fun g => (vmP rfl)) <| dv (fun g => (vldac ag48 sz48 rfl rfl (by decide))) <| WD.eff rfl <| clx (by repeat' (first | with_reducible exact Sb.all | exact Sb.nil | (apply Sb.cons; focus (first | ((repeat (first | with_reducible exact Tk.here | with_reducible apply Tk.there)); done) | ((repeat (first | exact Tk.here | apply Tk.there)); done))) | apply Sb.drop)) (law_callg (d := d) (s := s) hpk (by omega) (by omega) (by omega) (by omega) (RdC.old hrd)) ct16 rfl fun r14 hr14 => ?_
            rw [← hP]
            refine WL.nil <| WX.br <| WPl.barC <| dcl (fun g => Fun.quiet law_of) ct19 rfl <| WD.eff rfl <| clx (by repeat' (first | with_reducible exact Sb.all | exact Sb.nil | (apply Sb.cons; focus (first | ((repeat (first | with_reducible exact Tk.here | with_reducible apply Tk.there)); done) | ((repeat (first | exact Tk.here | apply Tk.there)); done))) | apply Sb.drop)) (ref_do (f := af) (n := an) (b := ofb ki ab) (d := d) (s := s) (hRb := ⟨ofb_rd (RdC.old hrd)⟩) (ofk_kind h5) (by rw [ofk_mk]; exact ofk_ok hpk) (by omega) (ofb_len (by omega)) (by omega) (by omega) (by omega) (by omega)) ct22 rfl fun r17 hr17 => ?_
            rw [ofk_mk, hcs]
            refine WL.nil <| WX.brT <| WPl.finC <| dv (fun g => (vne rfl rfl)) <| WD.nil <| WX.thenN <| ?_
            refine WC.ite rfl (fun h6 => ?_) (fun h6 => ?_)
            · -- then
              exact absurd rfl h6
            · -- else
              exact WC.skip <| WX.blockN <| WX.mid (⟨k + 1, v, j, r, w, N + 1, M + 1, P.1.1, P.1.2⟩) (⟨rfl, Nat.le_refl _, by dsimp only; omega, by dsimp only; omega, by dsimp only; omega, by dsimp only; omega, hcc⟩) ⟨rfl, rfl, trivial⟩ ⟨rfl, rfl, rfl, rfl, trivial⟩ (fun _ h => Sb.own (by repeat' (first | with_reducible exact Sb.all | exact Sb.nil | (apply Sb.cons; focus (first | ((repeat (first | with_reducible exact Tk.here | with_reducible apply Tk.there)); done) | ((repeat (first | exact Tk.here | apply Tk.there)); done))) | apply Sb.drop)) h)
          · -- else
            refine WC.seq <| WC.region <| sv (veq rfl rfl) <| sv (vaB rfl) <| WL.nil <| WX.thenN <| ?_
            refine WC.ite rfl (fun h7 => ?_) (fun h7 => ?_)
            · -- then
              refine WC.seq <| WC.region <| sv (vmP rfl) <| sv (vfldp fl48f1 rfl) <| sv (vldc pl3 rfl) <| sv (vfldp fl48f2 rfl) <| sv (vldc pl3 rfl) <| clx (by repeat' (first | with_reducible exact Sb.all | exact Sb.nil | (apply Sb.cons; focus (first | ((repeat (first | with_reducible exact Tk.here | with_reducible apply Tk.there)); done) | ((repeat (first | exact Tk.here | apply Tk.there)); done))) | apply Sb.drop)) (disk_arm hfu) ct15 rfl fun r20 hr20 => ?_
              refine WL.nil <| WX.thenN <| WC.region <| sv (vmP rfl) <| sv (vfldp fl48f1 rfl) <| sv (vldc pl3 rfl) <| sv (vfldp fl48f2 rfl) <| sv (vldc pl3 rfl) <| clx (by repeat' (first | with_reducible exact Sb.all | exact Sb.nil | (apply Sb.cons; focus (first | ((repeat (first | with_reducible exact Tk.here | with_reducible apply Tk.there)); done) | ((repeat (first | exact Tk.here | apply Tk.there)); done))) | apply Sb.drop)) (ref_arm hfu) ct23 rfl fun r23 hr23 => ?_
              exact WL.nil <| WX.blockN <| WX.mid (⟨k + 1, v, j, r, w, N, M, d, ⟨{ s.st with fuse := max an 0, keep := aq }, s.n, s.sick⟩⟩) (⟨rfl, Nat.le_refl _, by dsimp only; omega, by dsimp only; omega, by dsimp only; omega, by dsimp only; omega, v6⟩) ⟨rfl, rfl, trivial⟩ ⟨rfl, rfl, rfl, rfl, trivial⟩ (fun _ h => Sb.own (by repeat' (first | with_reducible exact Sb.all | exact Sb.nil | (apply Sb.cons; focus (first | ((repeat (first | with_reducible exact Tk.here | with_reducible apply Tk.there)); done) | ((repeat (first | exact Tk.here | apply Tk.there)); done))) | apply Sb.drop)) h)
            · -- else
              refine WC.seq <| WC.region <| sv (veq rfl rfl) <| sv (vaB rfl) <| WL.nil <| WX.thenN <| ?_
              refine WC.ite rfl (fun h8 => ?_) (fun h8 => ?_)
              · -- then
                refine WC.seq <| WC.region <| sv (vmP rfl) <| sv (vfldp fl48f2 rfl) <| sv (vldc pl3 rfl) <| clx (by repeat' (first | with_reducible exact Sb.all | exact Sb.nil | (apply Sb.cons; focus (first | ((repeat (first | with_reducible exact Tk.here | with_reducible apply Tk.there)); done) | ((repeat (first | exact Tk.here | apply Tk.there)); done))) | apply Sb.drop)) (disk_off_at) ct24 rfl fun r25 hr25 => ?_
                refine WL.nil <| WX.thenN <| WC.region <| sv (vmP rfl) <| sv (vfldp fl48f2 rfl) <| sv (vldc pl3 rfl) <| clx (by repeat' (first | with_reducible exact Sb.all | exact Sb.nil | (apply Sb.cons; focus (first | ((repeat (first | with_reducible exact Tk.here | with_reducible apply Tk.there)); done) | ((repeat (first | exact Tk.here | apply Tk.there)); done))) | apply Sb.drop)) (ref_off) ct25 rfl fun r27 hr27 => ?_
                exact WL.nil <| WX.blockN <| WX.mid (⟨k + 1, v, j, r, w, N, M, d, ⟨offS aq s.st, s.n, s.sick⟩⟩) (⟨rfl, Nat.le_refl _, by dsimp only; omega, by dsimp only; omega, by dsimp only; rw [offS_deeds]; omega, by dsimp only; omega, v6⟩) ⟨rfl, rfl, trivial⟩ ⟨rfl, rfl, rfl, rfl, trivial⟩ (fun _ h => Sb.own (by repeat' (first | with_reducible exact Sb.all | exact Sb.nil | (apply Sb.cons; focus (first | ((repeat (first | with_reducible exact Tk.here | with_reducible apply Tk.there)); done) | ((repeat (first | exact Tk.here | apply Tk.there)); done))) | apply Sb.drop)) h)
              · -- else
                refine WC.seq <| WC.region <| sv (veq rfl rfl) <| sv (vaB rfl) <| WL.nil <| WX.thenN <| ?_
                refine WC.ite rfl (fun h9 => ?_) (fun h9 => ?_)
                · -- then
                  obtain ⟨so, hso0⟩ : ∃ x : DSt, x = { s.st with off := false } := ⟨_, rfl⟩
                  have hsd : so.deeds = s.st.deeds := by rw [hso0]
                  have hsf : so.files = s.st.files := by rw [hso0]
                  have hsu : so.fuse = s.st.fuse := by rw [hso0]
                  refine WC.known (fun w h => pdisk_lenO (d := r2) (st := s.st) (nm := vnm) (Sb.own (B := [pdisk r2 s.st]) (by repeat' (first | with_reducible exact Sb.all | exact Sb.nil | (apply Sb.cons; focus (first | ((repeat (first | with_reducible exact Tk.here | with_reducible apply Tk.there)); done) | ((repeat (first | exact Tk.here | apply Tk.there)); done))) | apply Sb.drop)) h)) fun hblen => ?_
                  rw [← hso0] at hblen
                  have hod := openS_deeds vnm so
                  have hrl := flat_length (recsB (readS vnm so).1).1
                  have hwl := congrArg List.length (recsB_whole (readS vnm so).1)
                  rw [List.length_append] at hwl
                  rcases hop : openS vnm so with ⟨st', e⟩
                  rw [hop, hsd] at hod
                  dsimp only at hod
                  by_cases he : e = 0 ∧ (redoA (recsB (readS vnm so).1).1 VD.new).isSome = true
                  · -- op
                    obtain ⟨rfl, hso⟩ := he
                    obtain ⟨d', hd'⟩ := Option.isSome_iff_exists.1 hso
                    have hc' := cnt_redoA cnt_new hd'
                    refine WC.seq <| WC.region <| sv (vmP rfl) <| clx (by repeat' (first | with_reducible exact Sb.all | exact Sb.nil | (apply Sb.cons; focus (first | ((repeat (first | with_reducible exact Tk.here | with_reducible apply Tk.there)); done) | ((repeat (first | exact Tk.here | apply Tk.there)); done))) | apply Sb.drop)) (disk_on) ct17 rfl fun r28 hr28 => ?_
                    rw [← hso0]
                    refine WL.ex (fun w h => rdisk_open (Own.sp1 (X1 := rdisk b4 M s.st) (by repeat' (first | exact Spl.nil | (apply Spl.cons; focus (first | ((repeat (first | with_reducible exact Tk.here | with_reducible apply Tk.there)); done) | ((repeat (first | exact Tk.here | apply Tk.there)); done))))) h)) ?_
                    rintro ⟨base, c, L⟩ ⟨hr, hc⟩
                    dsimp only at hr hc ⊢
                    refine WL.nil <| WX.thenN <| WC.seq <| WC.region <| sv (vmP rfl) <| sv (vnil rfl) <| sv (vfldp fl29f1 rfl) <| stp (v := .bool _) pl4 sz4 rfl rfl rfl <| WL.nil <| WX.thenN <| WC.seq <| WC.region <| sv (vmP rfl) <| pm (fun _ h => (show Own w0 (pdisk r2 so :: rdisk b4 M so :: cel b10 (vcel ki an aq af ap am ab) 48 :: pv v j s.sick d :: cel j (jcells r2 vnm s.n s.sick) 112 :: rv r w N d :: cel w (wcells b4 vnm s.n s.sick) 100 :: A) _ from by clear hop; subst hso0; have h2 := rdisk_mk (r := b4) (st := { s.st with off := false }) (hr.same rfl hr.fuse) hc (Own.sp3 (by repeat' (first | exact Spl.nil | (apply Spl.cons; focus (first | ((repeat (first | with_reducible exact Tk.here | with_reducible apply Tk.there)); done) | ((repeat (first | exact Tk.here | apply Tk.there)); done))))) h); exact Sb.own (by repeat' (first | with_reducible exact Sb.all | exact Sb.nil | (apply Sb.cons; focus (first | ((repeat (first | with_reducible exact Tk.here | with_reducible apply Tk.there)); done) | ((repeat (first | exact Tk.here | apply Tk.there)); done))) | apply Sb.drop)) h2)) <| clx (by repeat' (first | with_reducible exact Sb.all | exact Sb.nil | (apply Sb.cons; focus (first | ((repeat (first | with_reducible exact Tk.here | with_reducible apply Tk.there)); done) | ((repeat (first | exact Tk.here | apply Tk.there)); done))) | apply Sb.drop)) (v_open_some (d := d') (st := so) (by omega) hop hd' hblen) ct10 rfl fun r30 hr30 => ?_
                    refine sv vmv <| sv (vex rfl rfl) <| sv (vex rfl rfl) <| sv (vaP rfl) <| sv (vaI rfl) <| WL.nil <| WX.thenN <| WC.seq <| WC.region <| sv (vmP rfl) <| clx (by repeat' (first | with_reducible exact Sb.all | exact Sb.nil | (apply Sb.cons; focus (first | ((repeat (first | with_reducible exact Tk.here | with_reducible apply Tk.there)); done) | ((repeat (first | exact Tk.here | apply Tk.there)); done))) | apply Sb.drop)) (ref_open_some16 (d := d') (st := so) (by omega) (by omega) hop hd' hblen) ct11 rfl fun r31 hr31 => ?_
                    refine sv vmv <| sv (vex rfl rfl) <| sv (vex rfl rfl) <| sv (vaP rfl) <| sv (vaI rfl) <| WL.nil <| WX.thenN <| WC.seq <| ?_
                    refine WC.cutS [(116, .bool false)] [(0, .slice _ _ _), (3, .pointer _), (4, .pointer _), (5, .pointer _), (7, .pointer _), (9, .int _ _), (11, .pointer _), (13, .pointer _)] ⟨rfl, rfl, rfl, rfl, rfl, rfl, rfl, rfl, trivial⟩ ?_ fun ρh => ?_
                    · -- law.go:160
                      refine WC.region <| sv (vmI rfl) <| sv (vmI rfl) <| svs (vne rfl rfl) (fun q1 => ?_) (fun q1 => ?_)
                      ·
                        exact sv (vmB rfl) <| sng rfl <| sng rfl <| sng rfl <| sng rfl <| sng rfl <| sv (vpkt rfl) <| WL.nil <| WX.mid () trivial ⟨(by exact absurd rfl (by assumption)), trivial⟩ ⟨rfl, rfl, rfl, rfl, rfl, rfl, rfl, rfl, trivial⟩ (fun _ h => Sb.own (by repeat' (first | with_reducible exact Sb.all | exact Sb.nil | (apply Sb.cons; focus (first | ((repeat (first | with_reducible exact Tk.here | with_reducible apply Tk.there)); done) | ((repeat (first | exact Tk.here | apply Tk.there)); done))) | apply Sb.drop)) h)
                      ·
                        exact sv (vmB rfl) <| svg rfl (vmP rfl) <| svg rfl (vpeqF Tryz.underlying33 rfl rfl) <| svg rfl (vmP rfl) <| svg rfl (vpeqF Tryz.underlying36 rfl rfl) <| svg rfl (vneb Tryz.underlying4 rfl rfl) <| sv (vpkf rfl) <| WL.nil <| WX.mid () trivial ⟨rfl, trivial⟩ ⟨rfl, rfl, rfl, rfl, rfl, rfl, rfl, rfl, trivial⟩ (fun _ h => Sb.own (by repeat' (first | with_reducible exact Sb.all | exact Sb.nil | (apply Sb.cons; focus (first | ((repeat (first | with_reducible exact Tk.here | with_reducible apply Tk.there)); done) | ((repeat (first | exact Tk.here | apply Tk.there)); done))) | apply Sb.drop)) h)
                    refine WC.ff rfl ?_
                    refine WC.skip <| WX.thenN <| WC.seq <| WC.region <| sv (vmP rfl) <| sv (vpneT Tryz.underlying33 rfl rfl) <| WL.nil <| WX.thenN <| ?_
                    refine WC.tt rfl ?_
                    exact WC.seq <| WC.region <| sv (vmP rfl) <| sv (vaP rfl) <| WL.nil <| WX.thenN <| WC.region <| sv (vmP rfl) <| sv (vaP rfl) <| WL.nil <| WX.blockN <| WX.mid (⟨k + 1, r30.1, r30.2, r31.1, r31.2, (recsB (readS vnm so).1).1.length, M, d', ⟨st', (recsB (readS vnm so).1).1.length, false⟩⟩) (⟨rfl, Nat.le_refl _, by dsimp only; omega, by dsimp only; omega, by dsimp only; omega, by dsimp only; omega, hc'⟩) ⟨rfl, rfl, trivial⟩ ⟨rfl, rfl, rfl, rfl, trivial⟩ (fun _ h => Sb.own (by repeat' (first | with_reducible exact Sb.all | exact Sb.nil | (apply Sb.cons; focus (first | ((repeat (first | with_reducible exact Tk.here | with_reducible apply Tk.there)); done) | ((repeat (first | exact Tk.here | apply Tk.there)); done))) | apply Sb.drop)) h)
                  · -- no
                    have hne : e = 0 → redoA (recsB (readS vnm so).1).1 VD.new = none := fun h => by cases hr : redoA (recsB (readS vnm so).1).1 VD.new with | none => rfl | some d' => exact absurd ⟨h, by rw [hr]; rfl⟩ he
                    refine WC.seq <| WC.region <| sv (vmP rfl) <| clx (by repeat' (first | with_reducible exact Sb.all | exact Sb.nil | (apply Sb.cons; focus (first | ((repeat (first | with_reducible exact Tk.here | with_reducible apply Tk.there)); done) | ((repeat (first | exact Tk.here | apply Tk.there)); done))) | apply Sb.drop)) (disk_on) ct17 rfl fun r28 hr28 => ?_
                    rw [← hso0]
                    refine WL.ex (fun w h => rdisk_open (Own.sp1 (X1 := rdisk b4 M s.st) (by repeat' (first | exact Spl.nil | (apply Spl.cons; focus (first | ((repeat (first | with_reducible exact Tk.here | with_reducible apply Tk.there)); done) | ((repeat (first | exact Tk.here | apply Tk.there)); done))))) h)) ?_
                    rintro ⟨base, c, L⟩ ⟨hr, hc⟩
                    dsimp only at hr hc ⊢
                    refine WL.nil <| WX.thenN <| WC.seq <| WC.region <| sv (vmP rfl) <| sv (vnil rfl) <| sv (vfldp fl29f1 rfl) <| stp (v := .bool _) pl4 sz4 rfl rfl rfl <| WL.nil <| WX.thenN <| WC.seq <| WC.region <| sv (vmP rfl) <| pm (fun _ h => (show Own w0 (pdisk r2 so :: rdisk b4 M so :: cel b10 (vcel ki an aq af ap am ab) 48 :: pv v j s.sick d :: cel j (jcells r2 vnm s.n s.sick) 112 :: rv r w N d :: cel w (wcells b4 vnm s.n s.sick) 100 :: A) _ from by clear hop; subst hso0; have h2 := rdisk_mk (r := b4) (st := { s.st with off := false }) (hr.same rfl hr.fuse) hc (Own.sp3 (by repeat' (first | exact Spl.nil | (apply Spl.cons; focus (first | ((repeat (first | with_reducible exact Tk.here | with_reducible apply Tk.there)); done) | ((repeat (first | exact Tk.here | apply Tk.there)); done))))) h); exact Sb.own (by repeat' (first | with_reducible exact Sb.all | exact Sb.nil | (apply Sb.cons; focus (first | ((repeat (first | with_reducible exact Tk.here | with_reducible apply Tk.there)); done) | ((repeat (first | exact Tk.here | apply Tk.there)); done))) | apply Sb.drop)) h2)) <| clx (by repeat' (first | with_reducible exact Sb.all | exact Sb.nil | (apply Sb.cons; focus (first | ((repeat (first | with_reducible exact Tk.here | with_reducible apply Tk.there)); done) | ((repeat (first | exact Tk.here | apply Tk.there)); done))) | apply Sb.drop)) (v_open_no (st := so) (by omega) hop hne hblen) ct10 rfl fun r30 hr30 => ?_
                    refine sv vmv <| sv (vex rfl rfl) <| sv (vex rfl rfl) <| sv (vaP rfl) <| sv (vaI rfl) <| WL.nil <| WX.thenN <| WC.seq <| WC.region <| sv (vmP rfl) <| clx (by repeat' (first | with_reducible exact Sb.all | exact Sb.nil | (apply Sb.cons; focus (first | ((repeat (first | with_reducible exact Tk.here | with_reducible apply Tk.there)); done) | ((repeat (first | exact Tk.here | apply Tk.there)); done))) | apply Sb.drop)) (ref_open_no16 (st := so) (by omega) (by omega) hop hne hblen) ct11 rfl fun r31 hr31 => ?_
                    refine sv vmv <| sv (vex rfl rfl) <| sv (vex rfl rfl) <| sv (vaP rfl) <| sv (vaI rfl) <| WL.nil <| WX.thenN <| WC.seq <| ?_
                    refine WC.cutS [(116, .bool false)] [(0, .slice _ _ _), (3, .pointer _), (4, .pointer _), (5, .pointer _), (7, .pointer _), (9, .int _ _), (11, .pointer _), (13, .pointer _)] ⟨rfl, rfl, rfl, rfl, rfl, rfl, rfl, rfl, trivial⟩ ?_ fun ρh => ?_
                    · -- law.go:160
                      refine WC.region <| sv (vmI rfl) <| sv (vmI rfl) <| svs (vne rfl rfl) (fun q2 => ?_) (fun q2 => ?_)
                      ·
                        exact sv (vmB rfl) <| sng rfl <| sng rfl <| sng rfl <| sng rfl <| sng rfl <| sv (vpkt rfl) <| WL.nil <| WX.mid () trivial ⟨(by exact absurd rfl (by assumption)), trivial⟩ ⟨rfl, rfl, rfl, rfl, rfl, rfl, rfl, rfl, trivial⟩ (fun _ h => Sb.own (by repeat' (first | with_reducible exact Sb.all | exact Sb.nil | (apply Sb.cons; focus (first | ((repeat (first | with_reducible exact Tk.here | with_reducible apply Tk.there)); done) | ((repeat (first | exact Tk.here | apply Tk.there)); done))) | apply Sb.drop)) h)
                      ·
                        exact sv (vmB rfl) <| svg rfl (vmP rfl) <| svg rfl (vpeqT Tryz.underlying33 rfl rfl) <| svg rfl (vmP rfl) <| svg rfl (vpeqT Tryz.underlying36 rfl rfl) <| svg rfl (vneb Tryz.underlying4 rfl rfl) <| sv (vpkf rfl) <| WL.nil <| WX.mid () trivial ⟨rfl, trivial⟩ ⟨rfl, rfl, rfl, rfl, rfl, rfl, rfl, rfl, trivial⟩ (fun _ h => Sb.own (by repeat' (first | with_reducible exact Sb.all | exact Sb.nil | (apply Sb.cons; focus (first | ((repeat (first | with_reducible exact Tk.here | with_reducible apply Tk.there)); done) | ((repeat (first | exact Tk.here | apply Tk.there)); done))) | apply Sb.drop)) h)
                    refine WC.ff rfl ?_
                    refine WC.skip <| WX.thenN <| WC.seq <| WC.region <| sv (vmP rfl) <| sv (vpneF Tryz.underlying33 rfl rfl) <| WL.nil <| WX.thenN <| ?_
                    refine WC.ff rfl ?_
                    exact WC.skip <| WX.blockN <| WX.mid (⟨k + 1, v, j, r, w, N, M, d, ⟨st', s.n, s.sick⟩⟩) (⟨rfl, Nat.le_refl _, by dsimp only; omega, by dsimp only; omega, by dsimp only; omega, by dsimp only; omega, v6⟩) ⟨rfl, rfl, trivial⟩ ⟨rfl, rfl, rfl, rfl, trivial⟩ (fun _ h => Sb.own (by repeat' (first | with_reducible exact Sb.all | exact Sb.nil | (apply Sb.cons; focus (first | ((repeat (first | with_reducible exact Tk.here | with_reducible apply Tk.there)); done) | ((repeat (first | exact Tk.here | apply Tk.there)); done))) | apply Sb.drop)) h)
                · -- else
                  refine WC.seq <| WC.region <| sv (vmP rfl) <| sv (vmP rfl) <| sv (vldac ag48 sz48 rfl rfl (by decide)) <| clx (by repeat' (first | with_reducible exact Sb.all | exact Sb.nil | (apply Sb.cons; focus (first | ((repeat (first | with_reducible exact Tk.here | with_reducible apply Tk.there)); done) | ((repeat (first | exact Tk.here | apply Tk.there)); done))) | apply Sb.drop)) (law_askv hpk v6 (by omega)) ct26 rfl fun r36 hr36 => ?_
                  refine sv (vnot rfl) <| WL.nil <| WX.thenN <| ?_
                  refine WC.iteb rfl (fun h14 => ?_) (fun h14 => ?_)
                  · -- then
                    exact absurd (hr36 rfl) (by simpa using h14)
                  · -- else
                    exact WC.skip <| WX.blockN <| WX.mid (⟨k + 1, v, j, r, w, N, M, d, s⟩) (⟨rfl, Nat.le_refl _, by dsimp only; omega, by dsimp only; omega, by dsimp only; omega, by dsimp only; omega, v6⟩) ⟨rfl, rfl, trivial⟩ ⟨rfl, rfl, rfl, rfl, trivial⟩ (fun _ h => Sb.own (by repeat' (first | with_reducible exact Sb.all | exact Sb.nil | (apply Sb.cons; focus (first | ((repeat (first | with_reducible exact Tk.here | with_reducible apply Tk.there)); done) | ((repeat (first | exact Tk.here | apply Tk.there)); done))) | apply Sb.drop)) h)
      · -- behind the join
        rintro ⟨k2, v2', j2, r2', w2, N2, M2, d2, s2⟩ ⟨hk2, ⟨u1', u2', u3', u4', u5', u6'⟩⟩ ρh
        dsimp only at hk2 u1' u2' u3' u4' u5' u6' ⊢
        subst hk2
        refine WC.ex (fun w h => rdisk_open (Own.sp1 (X1 := rdisk b4 M2 s2.st) (by repeat' (first | exact Spl.nil | (apply Spl.cons; focus (first | ((repeat (first | with_reducible exact Tk.here | with_reducible apply Tk.there)); done) | ((repeat (first | exact Tk.here | apply Tk.there)); done))))) h)) ?_
        rintro ⟨base, c, L⟩ ⟨hr, hc⟩
        dsimp only at hr hc ⊢
        refine WC.seq <| WC.draws rfl (by kernel_rfl) <| qv (vmP rfl) <| qcl (Quiet.spl (X := [pdisk r2 s2.st]) (by repeat' (first | exact Spl.nil | (apply Spl.cons; focus (first | ((repeat (first | with_reducible exact Tk.here | with_reducible apply Tk.there)); done) | ((repeat (first | exact Tk.here | apply Tk.there)); done))))) disk_deeds) ct27 rfl <| qv (vmP rfl) <| qv (vnil rfl) <| qv (vfldp fl29f4 rfl) <| qv (vldc pl3 rfl) <| qv (vne rfl rfl) <| WQ.nil <| WX.thenN <| ?_
        refine WC.ite rfl (fun h15 => ?_) (fun h15 => ?_)
        · -- then
          exact absurd rfl h15
        · -- else
          exact WC.skip <| WX.blockN <| WX.thenN <| WC.region <| sv (vmI rfl) <| sv (vadd rfl rfl (by omega)) <| sv (vaI rfl) <| WL.nil <| WX.again (⟨k + 1, v2', j2, r2', w2, N2, M2, d2, s2⟩) (⟨by dsimp only; omega, u2', u3', u4', u5', u6'⟩) (by dsimp only; omega) ⟨rfl, rfl, rfl, trivial⟩ ⟨rfl, rfl, rfl, trivial⟩ (fun w h => by have h2 := rdisk_mk (r := b4) hr hc (Own.sp3 (by repeat' (first | exact Spl.nil | (apply Spl.cons; focus (first | ((repeat (first | with_reducible exact Tk.here | with_reducible apply Tk.there)); done) | ((repeat (first | exact Tk.here | apply Tk.there)); done))))) h); exact Sb.own (by repeat' (first | with_reducible exact Sb.all | exact Sb.nil | (apply Sb.cons; focus (first | ((repeat (first | with_reducible exact Tk.here | with_reducible apply Tk.there)); done) | ((repeat (first | exact Tk.here | apply Tk.there)); done))) | apply Sb.drop)) h2)
    · -- else
      refine WC.exit <| WX.thenE <| WX.thenE <| WX.blockH <| WX.thenN <| ?_
      refine WC.cut0 [(2, .bool true)] [] (A) trivial ?_ fun ρh => ?_
      · -- law.go:176
        refine WC.region <| clx (by repeat' (first | with_reducible exact Sb.all | exact Sb.nil | (apply Sb.cons; focus (first | ((repeat (first | with_reducible exact Tk.here | with_reducible apply Tk.there)); done) | ((repeat (first | exact Tk.here | apply Tk.there)); done))) | apply Sb.drop)) (law_awake) ct12 rfl fun r40 hr40 => ?_
        refine svb (vmB rfl) (fun q3 => ?_) (fun q3 => ?_)
        ·
          refine svg rfl (vmP rfl) <| svg rfl (vmP rfl) <| gy rfl <| clx (by repeat' (first | with_reducible exact Sb.all | exact Sb.nil | (apply Sb.cons; focus (first | ((repeat (first | with_reducible exact Tk.here | with_reducible apply Tk.there)); done) | ((repeat (first | exact Tk.here | apply Tk.there)); done))) | apply Sb.drop)) (law_isv v6 (by omega)) ct13 rfl fun r41 hr41 => ?_
          exact sv (vpkt rfl) <| sv (vaB rfl) <| WL.nil <| WX.mid () trivial ⟨(by rw [hr41 rfl]; rfl), trivial⟩ trivial (fun _ h => Sb.own (by repeat' (first | with_reducible exact Sb.all | exact Sb.nil | (apply Sb.cons; focus (first | ((repeat (first | with_reducible exact Tk.here | with_reducible apply Tk.there)); done) | ((repeat (first | exact Tk.here | apply Tk.there)); done))) | apply Sb.drop)) h)
        ·
          exact sng rfl <| sng rfl <| sng rfl <| sv (vpkf rfl) <| sv (vaB rfl) <| WL.nil <| WX.mid () trivial ⟨(by contradiction), trivial⟩ trivial (fun _ h => Sb.own (by repeat' (first | with_reducible exact Sb.all | exact Sb.nil | (apply Sb.cons; focus (first | ((repeat (first | with_reducible exact Tk.here | with_reducible apply Tk.there)); done) | ((repeat (first | exact Tk.here | apply Tk.there)); done))) | apply Sb.drop)) h)
      exact WC.ret <| WX.ret1 rfl (()) (trivial) rfl (fun _ h => Sb.own (by repeat' (first | with_reducible exact Sb.all | exact Sb.nil | (apply Sb.cons; focus (first | ((repeat (first | with_reducible exact Tk.here | with_reducible apply Tk.there)); done) | ((repeat (first | exact Tk.here | apply Tk.there)); done))) | apply Sb.drop)) h)
end Go.Proofs.YthljpljbpbkkcaaGreatDoor
end
