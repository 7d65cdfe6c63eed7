/-
  Layer 16: Put and Drop, as a whole.
-/
import Derived.Test.YthljpljbpbkkcaaDoorVaultSpecE
set_option linter.unusedVariables false
set_option linter.unusedSimpArgs false
set_option maxRecDepth 4000
namespace Go.Proofs.YthljpljbpbkkcaaDoor
open Go.Sl Go.RowKit Go.Pack Go.Vault Go.Journal

theorem pk_num {w0 : World} {A : List HProp} {base : Option Addr} {n c : Nat} {x : Int} {out : List UInt8} (bs : List UInt8) (hR : RdC w0 A base (u8s bs)) (hn : n = bs.length) (ho : out = bs ++ num x) (hb : bs.length ≤ 140737488351232) (hx : -9223372036854775808 ≤ x ∧ x ≤ 9223372036854775807) :
    Fun Tryd.prog w0 20 [.slice base n c, .int .i64 x] A (Ret w0 (fun i : Option Addr × Nat => out.length ≤ i.2) (fun i => .slice i.1 out.length i.2) (fun i => row i.1 i.2 1 5 (u8s out) :: A)) := by
  subst hn; subst ho
  rw [List.length_append]
  exact pack_num (hR := ⟨hR⟩) hb hx
theorem pk_text {w0 : World} {A : List HProp} {base : Option Addr} {n c : Nat} {s : ByteArray} {out : List UInt8} (bs : List UInt8) (hR : RdC w0 A base (u8s bs)) (hn : n = bs.length) (ho : out = bs ++ text s.data.toList) (hb : bs.length ≤ 140737488351232) (hs : bs.length + s.size ≤ 140737488351232) :
    Fun Tryd.prog w0 21 [.slice base n c, .string s] A (Ret w0 (fun i : Option Addr × Nat => out.length ≤ i.2) (fun i => .slice i.1 out.length i.2) (fun i => row i.1 i.2 1 5 (u8s out) :: A)) := by
  subst hn; subst ho
  rw [List.length_append]
  exact pack_text (hR := ⟨hR⟩) hb hs
theorem text_len (l : List UInt8) (h : l.length ≤ 1099511627776) : (text l).length ≤ l.length + 10 := by
  have := num_len (x := (l.length : Int)) (by omega)
  unfold text
  rw [List.length_append]; omega
/-- a call that may be done is done -/
theorem v_add {w0 : World} {A : List HProp} {v j dk n c : Nat} {w : Int × Bool} {d : VD} {s : JV} {rec : List UInt8} {d' : VD} {base : Option Addr} {fd : FuncId} {cap : List Value} (hR : RdC w0 A base (u8s rec)) (hct : callT Tryd.prog fd = true) (hk : n = rec.length) (hl : rec.length ≤ 1048576) (hd : 0 ≤ s.st.deeds ∧ s.st.deeds + 2 ≤ 9223372036854775807) (hn : 0 ≤ s.n ∧ s.n + 1 ≤ 9223372036854775807)
    (hdone : w = (0, true) → ∀ (st' : DSt) (n' : Int), Fun Tryd.prog w0 fd cap (vall v j dk d ⟨st', n', false⟩ A) (Ret w0 (fun _ : Unit => True) (fun _ => .tuple #[]) (fun _ => vall v j dk d' ⟨st', n', false⟩ A))) :
    AddF w0 v j dk w rec d' d s [.pointer (some ⟨v, 0, none⟩), .int .i64 w.1, .bool w.2, .slice base n c, .func (.func fd) #[] cap.toArray] A := by
  obtain ⟨e, b⟩ := w
  obtain ⟨st, nn, sick⟩ := s
  by_cases he : e = 0
  · subst he
    cases sick with
    | true => exact v_add_down
    | false =>
      cases b with
      | false => exact v_add_not
      | true => exact v_add_go (hR := ⟨hR⟩) hct hk hl hd hn (hdone rfl)
  · exact v_add_err he
theorem whyPut_do {d : VD} {k : PK} (h : whyPut d k = (0, true)) : d.parts k = none := by
  unfold whyPut at h
  split at h
  · cases h
  · split at h
    · cases h
    · split at h
      · cases h
      · have := congrArg Prod.snd h
        simpa using this
theorem v_put {w0 : World} {A : List HProp} {v j dk c : Nat} {d : VD} {s : JV} {k : PK} {base : Option Addr} {bs : List UInt8} [hR : Reads w0 A base (u8s bs)] (hk : PkOk k) (hf : k.flow.size ≤ 4096) (hb : bs.length ≤ 4096) (hd : 0 ≤ s.st.deeds ∧ s.st.deeds + 2 ≤ 9223372036854775807) (hn : 0 ≤ s.n ∧ s.n + 1 ≤ 9223372036854775807) :
    Fun Tryd.prog w0 10 [.pointer (some ⟨v, 0, none⟩), .string k.flow, .int .i64 k.num, .agg #[.int .i64 k.kind, .int .i64 k.n], .slice base bs.length c] (vall v j dk d s A) (Ret w0 (fun _ : Unit => True) (fun _ => .int .i64 (putS k bs d s).2) (fun _ => vall v j dk (putS k bs d s).1.1 (putS k bs d s).1.2 A)) := by
  have l1 := num_len (x := 1) (by omega)
  have l2 := num_len (x := k.num) hk.num
  have l3 := num_len (x := k.kind) hk.kind
  have l4 := num_len (x := k.n) hk.n
  have hfl : k.flow.data.toList.length = k.flow.size := rfl
  have l5 := text_len k.flow.data.toList (by omega)
  have l6 := text_len bs (by omega)
  have hrl : (recPut k bs).length ≤ 1048576 := by unfold recPut; simp only [List.length_append]; omega
  obtain ⟨w, hw⟩ : ∃ w, w = whyPut d k := ⟨_, rfl⟩
  unfold putS
  rw [← hw]
  refine Fun.enter Tryd.func10 rfl Tryd.ntmps10 rfl ?_
  refine WC.seq <| WC.region <| bxc (v := .pointer _) (cs := [.pointer _]) rfl rfl fun b1 => bxc (v := .agg _) (cs := [.int _ _, .int _ _]) rfl rfl fun b2 => bxc (v := .slice _ _ _) (cs := [.slice _ _ _]) rfl rfl fun b3 => sv (vaI rfl) <| WL.nil <| WX.thenN <| WC.seq <| WC.seq <| WC.region <| sv (vldc pl27 rfl) <| sv (vpeqF Tryd.underlying27 rfl rfl) <| WL.nil <| WX.thenN <| ?_
  refine WC.ff rfl ?_
  refine WC.skip <| WX.thenN <| WC.seq <| WC.region <| sv (vmT rfl) <| sv (vmI rfl) <| sv (vldac ag24 sz24 rfl rfl (by decide)) <| sv (vbd (ps := [(0, .string _), (1, .int _ _), (2, .agg _)]) (cs := pkl k) bt62 zt62 rfl (by rfl)) <| alz (cs := [.string ByteArray.empty, .int .i64 0, .int .i64 0, .int .i64 0]) zt62 (by rfl) fun b8 => stAp sz62 rfl rfl rfl (by intro v hv; simp only [List.mem_cons, List.not_mem_nil, or_false] at hv; rcases hv with rfl | rfl | rfl | rfl <;> rfl) rfl <| WL.nil <| WX.thenN <| WC.seq <| WC.region <| sv (vldc pl27 rfl) <| sv (vldac ag62 sz62 rfl rfl (by decide)) <| clx (by repeat' (first | with_reducible exact Sb.all | exact Sb.nil | (apply Sb.cons; focus (first | ((repeat (first | with_reducible exact Tk.here | with_reducible apply Tk.there)); done) | ((repeat (first | exact Tk.here | apply Tk.there)); done))) | apply Sb.drop)) ((show Fun Tryd.prog w0 19 [.pointer (some ⟨v, 0, none⟩), .agg (pkl k).toArray] (pv v j s.sick d :: _) (Ret w0 (fun _ : Unit => True) (fun _ => .tuple #[.int .i64 w.1, .bool w.2]) (fun _ => pv v j s.sick d :: _)) from by rw [hw]; exact v_puts hk)) ct19 rfl fun r12 hr12 => ?_
  refine sv vmv <| sv (vex rfl rfl) <| sv (vex rfl rfl) <| sv (vaI rfl) <| sv (vaB rfl) <| WL.nil <| WX.thenN <| WC.seq <| WC.region <| clx (by repeat' (first | with_reducible exact Sb.all | exact Sb.nil | (apply Sb.cons; focus (first | ((repeat (first | with_reducible exact Tk.here | with_reducible apply Tk.there)); done) | ((repeat (first | exact Tk.here | apply Tk.there)); done))) | apply Sb.drop)) (pk_num (out := num 1) [] RdC.nil rfl rfl (by simp) (by omega)) ct20 rfl fun r13 hr13 => ?_
  refine sv (vmT rfl) <| clx (by repeat' (first | with_reducible exact Sb.all | exact Sb.nil | (apply Sb.cons; focus (first | ((repeat (first | with_reducible exact Tk.here | with_reducible apply Tk.there)); done) | ((repeat (first | exact Tk.here | apply Tk.there)); done))) | apply Sb.drop)) (pk_text (out := num 1 ++ text k.flow.data.toList) (num 1) reads rfl rfl (by omega) (by omega)) ct21 rfl fun r14 hr14 => ?_
  refine sv (vmI rfl) <| clx (by repeat' (first | with_reducible exact Sb.all | exact Sb.nil | (apply Sb.cons; focus (first | ((repeat (first | with_reducible exact Tk.here | with_reducible apply Tk.there)); done) | ((repeat (first | exact Tk.here | apply Tk.there)); done))) | apply Sb.drop)) (pk_num (out := num 1 ++ text k.flow.data.toList ++ num k.num) (num 1 ++ text k.flow.data.toList) reads rfl rfl (by simp only [List.length_append]; omega) hk.num) ct20 rfl fun r15 hr15 => ?_
  refine sv (vaS rfl) <| WL.nil <| WX.thenN <| WC.seq <| WC.plan (.pre [0, 1, 2] (.one [4, 5, 7, 8] 3 (.one [] 6 (.bar [] 9 (.done [10]))))) rfl (by kernel_rfl) <| WPl.preC <| dv (fun g => (vmS rfl)) <| dv (fun g => (vfldpz fl24f0 rfl)) <| dv (fun g => (vldc pl3 rfl)) <| WD.nil <| WPl.oneE (fun g => by infer_instance) <| dv (fun g => (vfldp fl24f1 rfl)) <| dv (fun g => (vldc pl3 rfl)) <| dv (fun g => (vldc pl25 rfl)) <| dv (fun g => (vstr (bs := bs) Tryd.underlying25 Tryd.underlying5 Tryd.underlying9 rfl reads rfl)) <| WD.eff rfl <| clx (by repeat' (first | with_reducible exact Sb.all | exact Sb.nil | (apply Sb.cons; focus (first | ((repeat (first | with_reducible exact Tk.here | with_reducible apply Tk.there)); done) | ((repeat (first | exact Tk.here | apply Tk.there)); done))) | apply Sb.drop)) (pk_num (out := num 1 ++ text k.flow.data.toList ++ num k.num ++ num k.kind) (num 1 ++ text k.flow.data.toList ++ num k.num) reads rfl rfl (by simp only [List.length_append]; omega) hk.kind) ct20 rfl fun r17 hr17 => ?_
  refine WL.nil <| WX.br <| WPl.oneE (fun g => by infer_instance) <| WD.eff rfl <| clx (by repeat' (first | with_reducible exact Sb.all | exact Sb.nil | (apply Sb.cons; focus (first | ((repeat (first | with_reducible exact Tk.here | with_reducible apply Tk.there)); done) | ((repeat (first | exact Tk.here | apply Tk.there)); done))) | apply Sb.drop)) (pk_num (out := num 1 ++ text k.flow.data.toList ++ num k.num ++ num k.kind ++ num k.n) (num 1 ++ text k.flow.data.toList ++ num k.num ++ num k.kind) reads rfl rfl (by simp only [List.length_append]; omega) hk.n) ct20 rfl fun r19 hr19 => ?_
  refine WL.nil <| WX.br <| WPl.barC <| WD.eff rfl <| clx (by repeat' (first | with_reducible exact Sb.all | exact Sb.nil | (apply Sb.cons; focus (first | ((repeat (first | with_reducible exact Tk.here | with_reducible apply Tk.there)); done) | ((repeat (first | exact Tk.here | apply Tk.there)); done))) | apply Sb.drop)) (pk_text (out := recPut k bs) (num 1 ++ text k.flow.data.toList ++ num k.num ++ num k.kind ++ num k.n) reads rfl rfl (by simp only [List.length_append]; omega) (by simp only [List.length_append]; show _ + bs.length ≤ _; omega)) ct21 rfl fun r22 hr22 => ?_
  refine WL.nil <| WX.brT <| WPl.finC <| dv (fun g => (vaS rfl)) <| WD.nil <| WX.thenN <| WC.seq <| WC.region <| sv (vldc pl27 rfl) <| sv (vmI rfl) <| sv (vmB rfl) <| sv (vmS rfl) <| sv (vfn rfl) <| clx (by repeat' (first | with_reducible exact Sb.all | exact Sb.nil | (apply Sb.cons; focus (first | ((repeat (first | with_reducible exact Tk.here | with_reducible apply Tk.there)); done) | ((repeat (first | exact Tk.here | apply Tk.there)); done))) | apply Sb.drop)) (v_add (w := w) (rec := recPut k bs) (d' := putD d k bs) (cap := [.pointer (some ⟨b3, 0, none⟩), .pointer (some ⟨b1, 0, none⟩), .pointer (some ⟨b8, 0, none⟩)]) reads ct23 rfl hrl hd hn (fun h st' n' => v_put1 hk (whyPut_do (hw ▸ h)) (by omega))) ct22 rfl fun r24 hr24 => ?_
  exact sv (vaI rfl) <| WL.nil <| WX.thenN <| WC.ret <| WX.ret1 rfl (()) (trivial) rfl (fun _ h => Sb.own (by repeat' (first | with_reducible exact Sb.all | exact Sb.nil | (apply Sb.cons; focus (first | ((repeat (first | with_reducible exact Tk.here | with_reducible apply Tk.there)); done) | ((repeat (first | exact Tk.here | apply Tk.there)); done))) | apply Sb.drop)) h)
theorem v_dropc {w0 : World} {A : List HProp} {v j dk : Nat} {d : VD} {s : JV} {f : ByteArray} {n : Int} (hf : f.size ≤ 4096) (hn0 : -9223372036854775808 ≤ n ∧ n ≤ 9223372036854775807) (hd : 0 ≤ s.st.deeds ∧ s.st.deeds + 2 ≤ 9223372036854775807) (hn : 0 ≤ s.n ∧ s.n + 1 ≤ 9223372036854775807) :
    Fun Tryd.prog w0 15 [.pointer (some ⟨v, 0, none⟩), .string f, .int .i64 n] (vall v j dk d s A) (Ret w0 (fun _ : Unit => True) (fun _ => .int .i64 (dropS f n d s).2) (fun _ => vall v j dk (dropS f n d s).1.1 (dropS f n d s).1.2 A)) := by
  have l1 := num_len (x := 2) (by omega)
  have l2 := num_len (x := n) hn0
  have hfl : f.data.toList.length = f.size := rfl
  have l5 := text_len f.data.toList (by omega)
  have hrl : (recDrop f n).length ≤ 1048576 := by unfold recDrop; simp only [List.length_append]; omega
  obtain ⟨w, hw⟩ : ∃ w, w = whyDrop d f n := ⟨_, rfl⟩
  unfold dropS
  rw [← hw]
  refine Fun.enter Tryd.func15 rfl Tryd.ntmps15 rfl ?_
  refine WC.seq <| WC.region <| bxc (v := .pointer _) (cs := [.pointer _]) rfl rfl fun b1 => bxc (v := .string _) (cs := [.string _]) rfl rfl fun b2 => bxc (v := .int _ _) (cs := [.int _ _]) rfl rfl fun b3 => sv (vaI rfl) <| WL.nil <| WX.thenN <| WC.seq <| WC.seq <| WC.region <| sv (vldc pl27 rfl) <| sv (vpeqF Tryd.underlying27 rfl rfl) <| WL.nil <| WX.thenN <| ?_
  refine WC.ff rfl ?_
  refine WC.skip <| WX.thenN <| WC.seq <| WC.region <| sv (vldc pl27 rfl) <| sv (vldc pl9 rfl) <| sv (vldc pl3 rfl) <| clx (by repeat' (first | with_reducible exact Sb.all | exact Sb.nil | (apply Sb.cons; focus (first | ((repeat (first | with_reducible exact Tk.here | with_reducible apply Tk.there)); done) | ((repeat (first | exact Tk.here | apply Tk.there)); done))) | apply Sb.drop)) ((show Fun Tryd.prog w0 26 [.pointer (some ⟨v, 0, none⟩), .string f, .int .i64 n] (pv v j s.sick d :: _) (Ret w0 (fun _ : Unit => True) (fun _ => .tuple #[.int .i64 w.1, .bool w.2]) (fun _ => pv v j s.sick d :: _)) from by rw [hw]; exact v_drops (by omega))) ct26 rfl fun r9 hr9 => ?_
  refine sv vmv <| sv (vex rfl rfl) <| sv (vex rfl rfl) <| sv (vaI rfl) <| sv (vaB rfl) <| WL.nil <| WX.thenN <| WC.seq <| WC.plan (.one [0, 1, 2, 4, 6, 8] 3 (.one [] 5 (.one [] 7 (.bar [] 9 (.done [10]))))) rfl (by kernel_rfl) <| WPl.oneE (fun g => by infer_instance) <| dv (fun g => (vldc pl27 rfl)) <| dv (fun g => (vmI rfl)) <| dv (fun g => (vmB rfl)) <| dv (fun g => (vldc pl9 rfl)) <| dv (fun g => (vldc pl3 rfl)) <| dv (fun g => (vfn rfl)) <| WD.eff rfl <| clx (by repeat' (first | with_reducible exact Sb.all | exact Sb.nil | (apply Sb.cons; focus (first | ((repeat (first | with_reducible exact Tk.here | with_reducible apply Tk.there)); done) | ((repeat (first | exact Tk.here | apply Tk.there)); done))) | apply Sb.drop)) (pk_num (out := num 2) [] RdC.nil rfl rfl (by simp) (by omega)) ct20 rfl fun r11 hr11 => ?_
  refine WL.nil <| WX.br <| WPl.oneE (fun g => by infer_instance) <| WD.eff rfl <| clx (by repeat' (first | with_reducible exact Sb.all | exact Sb.nil | (apply Sb.cons; focus (first | ((repeat (first | with_reducible exact Tk.here | with_reducible apply Tk.there)); done) | ((repeat (first | exact Tk.here | apply Tk.there)); done))) | apply Sb.drop)) (pk_text (out := num 2 ++ text f.data.toList) (num 2) reads rfl rfl (by omega) (by omega)) ct21 rfl fun r13 hr13 => ?_
  refine WL.nil <| WX.br <| WPl.oneE (fun g => by infer_instance) <| WD.eff rfl <| clx (by repeat' (first | with_reducible exact Sb.all | exact Sb.nil | (apply Sb.cons; focus (first | ((repeat (first | with_reducible exact Tk.here | with_reducible apply Tk.there)); done) | ((repeat (first | exact Tk.here | apply Tk.there)); done))) | apply Sb.drop)) (pk_num (out := recDrop f n) (num 2 ++ text f.data.toList) reads rfl rfl (by simp only [List.length_append]; omega) hn0) ct20 rfl fun r15 hr15 => ?_
  refine WL.nil <| WX.br <| WPl.barC <| WD.eff rfl <| clx (by repeat' (first | with_reducible exact Sb.all | exact Sb.nil | (apply Sb.cons; focus (first | ((repeat (first | with_reducible exact Tk.here | with_reducible apply Tk.there)); done) | ((repeat (first | exact Tk.here | apply Tk.there)); done))) | apply Sb.drop)) (v_add (w := w) (rec := recDrop f n) (d' := dropD d f n) (cap := [.pointer (some ⟨b1, 0, none⟩), .pointer (some ⟨b2, 0, none⟩), .pointer (some ⟨b3, 0, none⟩)]) reads ct27 rfl hrl hd hn (fun h st' n' => v_drop1)) ct22 rfl fun r16 hr16 => ?_
  exact WL.nil <| WX.brT <| WPl.finC <| dv (fun g => (vaI rfl)) <| WD.nil <| WX.thenN <| WC.ret <| WX.ret1 rfl (()) (trivial) rfl (fun _ h => Sb.own (by repeat' (first | with_reducible exact Sb.all | exact Sb.nil | (apply Sb.cons; focus (first | ((repeat (first | with_reducible exact Tk.here | with_reducible apply Tk.there)); done) | ((repeat (first | exact Tk.here | apply Tk.there)); done))) | apply Sb.drop)) h)
theorem v_get_none {w0 : World} {A : List HProp} {v j : Nat} {dn : Bool} {d : VD} {k : PK} (hk : PkOk k) (h0 : d.parts k = none) : Fun Tryd.prog w0 13 [.pointer (some ⟨v, 0, none⟩), .string k.flow, .int .i64 k.num, .agg #[.int .i64 k.kind, .int .i64 k.n]] (pv v j dn d :: A) (Ret w0 (fun _ : Unit => True) (fun _ => .tuple #[.slice none 0 0, .int .i64 6]) (fun _ => pv v j dn d :: A)) := by
  refine Fun.ex (fun w h => pv_open h) ?_
  rintro ⟨mp, mf, l, fl⟩ hi
  dsimp only [vcl]
  refine Fun.enter Tryd.func13 rfl Tryd.ntmps13 rfl ?_
  refine WC.seq <| WC.region <| bxc (v := .agg _) (cs := [.int _ _, .int _ _]) rfl rfl fun b1 => sv (vaS rfl) <| sv (vaI rfl) <| WL.nil <| WX.thenN <| WC.seq <| WC.seq <| WC.region <| sv (vmP rfl) <| sv (vpeqF Tryd.underlying27 rfl rfl) <| WL.nil <| WX.thenN <| ?_
  refine WC.ff rfl ?_
  refine WC.skip <| WX.thenN <| WC.seq <| WC.draws rfl (by kernel_rfl) <| qv (vmP rfl) <| qv (vnil rfl) <| qv (vfldpz fl56f0 rfl) <| qv (vldc pl53 rfl) <| qv (vmT rfl) <| qv (vmI rfl) <| qv (vldac ag24 sz24 rfl rfl (by decide)) <| qv (vbd (ps := [(0, .string _), (1, .int _ _), (2, .agg _)]) (cs := pkl k) bt62 zt62 rfl (by rfl)) <| qv (vlkzK (okf := true) Tryd.underlying53 place_law zt25 rfl rfl (kp_ok hk) (pents_none ((hi.look k).trans h0))) <| qv vmv <| qv (vex rfl rfl) <| qv (vex rfl rfl) <| qv (vaS rfl) <| qv (vaB rfl) <| WQ.nil <| WX.thenN <| WC.seq <| WC.seq <| WC.region <| sv (vmB rfl) <| sv (vnot rfl) <| WL.nil <| WX.thenN <| ?_
  refine WC.tt rfl ?_
  exact WC.seq <| WC.region <| sv (vaS rfl) <| sv (vaI rfl) <| WL.nil <| WX.thenN <| WC.ret <| WX.thenR <| WX.ret2 rfl (()) (trivial) rfl (fun w h => by have h2 := pv_mk (v := v) (j := j) (down := dn) hi (Own.sp4 (by repeat' (first | exact Spl.nil | (apply Spl.cons; focus (first | ((repeat (first | with_reducible exact Tk.here | with_reducible apply Tk.there)); done) | ((repeat (first | exact Tk.here | apply Tk.there)); done))))) h); exact Sb.own (by repeat' (first | with_reducible exact Sb.all | exact Sb.nil | (apply Sb.cons; focus (first | ((repeat (first | with_reducible exact Tk.here | with_reducible apply Tk.there)); done) | ((repeat (first | exact Tk.here | apply Tk.there)); done))) | apply Sb.drop)) h2)
theorem v_get_some {w0 : World} {A : List HProp} {v j : Nat} {dn : Bool} {d : VD} {k : PK} {b : List UInt8} (hk : PkOk k) (h0 : d.parts k = some b) : Fun Tryd.prog w0 13 [.pointer (some ⟨v, 0, none⟩), .string k.flow, .int .i64 k.num, .agg #[.int .i64 k.kind, .int .i64 k.n]] (pv v j dn d :: A) (Ret w0 (fun i : Option Addr × Nat => b.length ≤ i.2) (fun i => .tuple #[.slice i.1 b.length i.2, .int .i64 0]) (fun i => row i.1 i.2 1 5 (u8s b) :: pv v j dn d :: A)) := by
  refine Fun.ex (fun w h => pv_open h) ?_
  rintro ⟨mp, mf, l, fl⟩ hi
  obtain ⟨jj, x, hj, hxk, rfl⟩ := lookP_some ((hi.look k).trans h0)
  have hok := (hi.ok x (List.mem_of_getElem? hj)).2
  have hpe := pents_at hj
  rw [hxk] at hpe
  dsimp only [vcl] at hpe ⊢
  refine Fun.enter Tryd.func13 rfl Tryd.ntmps13 rfl ?_
  refine WC.seq <| WC.region <| bxc (v := .agg _) (cs := [.int _ _, .int _ _]) rfl rfl fun b1 => sv (vaS rfl) <| sv (vaI rfl) <| WL.nil <| WX.thenN <| WC.seq <| WC.seq <| WC.region <| sv (vmP rfl) <| sv (vpeqF Tryd.underlying27 rfl rfl) <| WL.nil <| WX.thenN <| ?_
  refine WC.ff rfl ?_
  refine WC.skip <| WX.thenN <| WC.seq <| WC.draws rfl (by kernel_rfl) <| qv (vmP rfl) <| qv (vnil rfl) <| qv (vfldpz fl56f0 rfl) <| qv (vldc pl53 rfl) <| qv (vmT rfl) <| qv (vmI rfl) <| qv (vldac ag24 sz24 rfl rfl (by decide)) <| qv (vbd (ps := [(0, .string _), (1, .int _ _), (2, .agg _)]) (cs := pkl k) bt62 zt62 rfl (by rfl)) <| qv (vlkK (okf := true) Tryd.underlying53 place_law rfl rfl (kp_ok hk) hpe) <| qv vmv <| qv (vex rfl rfl) <| qv (vex rfl rfl) <| qv (vaS rfl) <| qv (vaB rfl) <| WQ.nil <| WX.thenN <| WC.seq <| WC.seq <| WC.region <| sv (vmB rfl) <| sv (vnot rfl) <| WL.nil <| WX.thenN <| ?_
  refine WC.ff rfl ?_
  refine WC.skip <| WX.thenN <| WC.seq <| WC.region <| sv (vmS rfl) <| clx (by repeat' (first | with_reducible exact Sb.all | exact Sb.nil | (apply Sb.cons; focus (first | ((repeat (first | with_reducible exact Tk.here | with_reducible apply Tk.there)); done) | ((repeat (first | exact Tk.here | apply Tk.there)); done))) | apply Sb.drop)) (v_clone (hR := ⟨RdC.of_rows (e := 5) (l := l.map Prod.snd) (by simp) (List.mem_map.2 ⟨x, List.mem_of_getElem? hj, rfl⟩)⟩) (by omega)) ct24 rfl fun r7 hr7 => ?_
  exact sv (vaS rfl) <| sv (vaI rfl) <| WL.nil <| WX.thenN <| WC.ret <| WX.ret2 rfl (r7) (hr7) rfl (fun w h => by have h2 := pv_mk (v := v) (j := j) (down := dn) hi (Own.sp4 (by repeat' (first | exact Spl.nil | (apply Spl.cons; focus (first | ((repeat (first | with_reducible exact Tk.here | with_reducible apply Tk.there)); done) | ((repeat (first | exact Tk.here | apply Tk.there)); done))))) h); exact Sb.own (by repeat' (first | with_reducible exact Sb.all | exact Sb.nil | (apply Sb.cons; focus (first | ((repeat (first | with_reducible exact Tk.here | with_reducible apply Tk.there)); done) | ((repeat (first | exact Tk.here | apply Tk.there)); done))) | apply Sb.drop)) h2)
end Go.Proofs.YthljpljbpbkkcaaDoor
