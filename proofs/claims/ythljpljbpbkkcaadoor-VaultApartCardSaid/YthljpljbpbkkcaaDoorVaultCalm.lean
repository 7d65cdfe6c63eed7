/-
  Layer 16: a vault whose disk does not fail.
-/
import Derived.Test.YthljpljbpbkkcaaDoorVaultSpecD
import Derived.Test.YthljpljbpbkkcaaDoorJournalLawA
set_option linter.unusedVariables false
set_option linter.unusedSimpArgs false
set_option maxRecDepth 4000
namespace Go.Proofs.YthljpljbpbkkcaaDoor
open Go.Sl Go.RowKit Go.Pack Go.Vault Go.Journal

theorem vnm_ok : okName vnm := by decide +kernel
theorem vnm_len : vnm.size ≤ 140737488351232 := by decide +kernel
structure Vc (s : JV) (m : Nat) : Prop where
  sick : s.sick = false
  n : 0 ≤ s.n ∧ s.n ≤ m
  fl : ∃ (all : List UInt8) (q : Int), Fl s.st vnm all q ∧ all.length ≤ m * 9000 ∧ 0 ≤ q ∧ q ≤ 2 * m
theorem Vc.new {m : Nat} : Vc ⟨newD, 0, false⟩ m :=
  ⟨rfl, ⟨Int.le_refl _, Int.natCast_nonneg m⟩, [], 0, Fl.new, Nat.zero_le _, Int.le_refl _, by omega⟩
theorem Vc.mono {s : JV} {m k : Nat} (h : Vc s m) (hk : m ≤ k) : Vc s k := by
  obtain ⟨h1, h2, all, q, h3, h4, h5, h6⟩ := h
  have h7 : all.length ≤ k * 9000 := Nat.le_trans h4 (Nat.mul_le_mul_right 9000 hk)
  exact ⟨h1, ⟨h2.1, by omega⟩, all, q, h3, h7, h5, by omega⟩
def actP (w : Int × Bool) (d' d : VD) : VD × Int := if w.1 ≠ 0 then (d, w.1) else if w.2 = false then (d, 0) else (d', 0)
def putP (k : PK) (b : List UInt8) (d : VD) : VD × Int := actP (whyPut d k) (putD d k b) d
def dropP (f : ByteArray) (n : Int) (d : VD) : VD × Int := actP (whyDrop d f n) (dropD d f n) d
theorem Vc.act {s : JV} {m : Nat} {w : Int × Bool} {d' d : VD} {rec : List UInt8} (h : Vc s m) (hr : rec.length ≤ 8900) (hm : m ≤ 1700) : ∃ s', actS w rec d' d s = (((actP w d' d).1, s'), (actP w d' d).2) ∧ Vc s' (m + 1) := by
  unfold actS actP
  by_cases h0 : w.1 ≠ 0
  · rw [if_pos h0, if_pos h0]; exact ⟨s, rfl, h.mono (by omega)⟩
  · rw [if_neg h0, if_neg h0, if_neg (by rw [h.sick]; decide)]
    by_cases h1 : w.2 = false
    · rw [if_pos h1, if_pos h1]; exact ⟨s, rfl, h.mono (by omega)⟩
    · rw [if_neg h1, if_neg h1]
      obtain ⟨hs, hn, all, q, hf, hl, hq1, hq2⟩ := h
      obtain ⟨st', e, f, _⟩ := hf.add (b := rec) vnm_ok (by omega)
      rw [e]
      refine ⟨_, rfl, rfl, ?_, all ++ frameB rec, q + 1 + 1, f, ?_, by omega, by omega⟩
      · show 0 ≤ (if (0 : Int) = 0 then s.n + 1 else s.n) ∧ _
        rw [if_pos rfl]; dsimp only; omega
      · rw [List.length_append, frameB_len]; omega
structure CI where
  j : Nat
  s : JV
def vcm (v dk : Nat) (d : VD) (m : Nat) : HProp := fun h => ∃ i : CI, Vc i.s m ∧ star (pv v i.j false d) (star (cel i.j (jcells dk vnm i.s.n false) 80) (pdisk dk i.s.st)) h
theorem vcm_open {w0 w : World} {A : List HProp} {v dk m : Nat} {d : VD} (H : Own w0 (vcm v dk d m :: A) w) : ∃ i : CI, Vc i.s m ∧ Own w0 (vall v i.j dk d ⟨i.s.st, i.s.n, false⟩ A) w := by
  obtain ⟨hb, h, ⟨h1, h2, ⟨i, hi, a⟩, a2, dd, y⟩, hw⟩ := H
  have h3 : Own w0 (star (pv v i.j false d) (star (cel i.j (jcells dk vnm i.s.n false) 80) (pdisk dk i.s.st)) :: A) w := ⟨hb, h, ⟨h1, h2, a, a2, dd, y⟩, hw⟩
  exact ⟨i, hi, (h3.star.pk1.star).ix [2, 0, 1]⟩
theorem vcm_mk {w0 w : World} {A : List HProp} {v dk m j : Nat} {d : VD} {s : JV} (hs : Vc s m) (H : Own w0 (vall v j dk d s A) w) : Own w0 (vcm v dk d m :: A) w := by
  obtain ⟨st, n, sick⟩ := s
  obtain rfl : sick = false := hs.sick
  have h1 := (H.ix [1, 2, 0]).intro_star
  exact ((h1.ix [1, 0]).intro_star).head fun _ h => ⟨⟨j, ⟨st, n, false⟩⟩, hs, h⟩
theorem Vc.deeds {s : JV} {m : Nat} (h : Vc s m) (hm : m ≤ 1700) : (0 ≤ s.st.deeds ∧ s.st.deeds + 2 ≤ 9223372036854775807) ∧ (0 ≤ s.n ∧ s.n + 1 ≤ 9223372036854775807) := by
  obtain ⟨hs, hn, all, q, hf, hl, hq1, hq2⟩ := h
  have := hf.deeds
  omega
theorem v_put_c {w0 : World} {A : List HProp} {v dk c m : Nat} {d : VD} {k : PK} {base : Option Addr} {bs : List UInt8} [hR : Reads w0 A base (u8s bs)] (hk : PkOk k) (hf : k.flow.size ≤ 4096) (hb : bs.length ≤ 4096) (hm : m ≤ 1700) :
    Fun Tryd.prog w0 10 [.pointer (some ⟨v, 0, none⟩), .string k.flow, .int .i64 k.num, .agg #[.int .i64 k.kind, .int .i64 k.n], .slice base bs.length c] (vcm v dk d m :: A) (Ret w0 (fun _ : Unit => True) (fun _ => .int .i64 (putP k bs d).2) (fun _ => vcm v dk (putP k bs d).1 (m + 1) :: A)) := by
  refine Fun.ex (fun w h => vcm_open h) ?_
  rintro ⟨j, s⟩ hi
  obtain ⟨g1, g2⟩ := hi.deeds hm
  have hi' : Vc ⟨s.st, s.n, false⟩ m := by have := hi; obtain ⟨st, n, sick⟩ := s; obtain rfl : sick = false := hi.sick; exact this
  have l2 := num_len (x := k.num) hk.num
  have l3 := num_len (x := k.kind) hk.kind
  have l4 := num_len (x := k.n) hk.n
  have l1 := num_len (x := 1) (by omega)
  have hfl : k.flow.data.toList.length = k.flow.size := rfl
  have l5 := text_len k.flow.data.toList (by omega)
  have l6 := text_len bs (by omega)
  obtain ⟨s', e, hv⟩ := hi'.act (w := whyPut d k) (d' := putD d k bs) (d := d) (rec := recPut k bs) (by unfold recPut; simp only [List.length_append]; omega) hm
  have := v_put (w0 := w0) (A := A) (v := v) (j := j) (dk := dk) (c := c) (d := d) (s := ⟨s.st, s.n, false⟩) (base := base) hk hf hb g1 g2
  unfold putS at this
  rw [e] at this
  exact this.mono fun e w ⟨i, hi, he, hO⟩ => ⟨(), trivial, he, vcm_mk hv hO⟩
theorem v_drop_c {w0 : World} {A : List HProp} {v dk m : Nat} {d : VD} {f : ByteArray} {n : Int} (hf : f.size ≤ 4096) (hn0 : -9223372036854775808 ≤ n ∧ n ≤ 9223372036854775807) (hm : m ≤ 1700) :
    Fun Tryd.prog w0 15 [.pointer (some ⟨v, 0, none⟩), .string f, .int .i64 n] (vcm v dk d m :: A) (Ret w0 (fun _ : Unit => True) (fun _ => .int .i64 (dropP f n d).2) (fun _ => vcm v dk (dropP f n d).1 (m + 1) :: A)) := by
  refine Fun.ex (fun w h => vcm_open h) ?_
  rintro ⟨j, s⟩ hi
  obtain ⟨g1, g2⟩ := hi.deeds hm
  have hi' : Vc ⟨s.st, s.n, false⟩ m := by have := hi; obtain ⟨st, n, sick⟩ := s; obtain rfl : sick = false := hi.sick; exact this
  have l1 := num_len (x := 2) (by omega)
  have l2 := num_len (x := n) hn0
  have hfl : f.data.toList.length = f.size := rfl
  have l5 := text_len f.data.toList (by omega)
  obtain ⟨s', e, hv⟩ := hi'.act (w := whyDrop d f n) (d' := dropD d f n) (d := d) (rec := recDrop f n) (by unfold recDrop; simp only [List.length_append]; omega) hm
  have := v_dropc (w0 := w0) (A := A) (v := v) (j := j) (dk := dk) (d := d) (s := ⟨s.st, s.n, false⟩) hf hn0 g1 g2
  unfold dropS at this
  rw [e] at this
  exact this.mono fun e w ⟨i, hi, he, hO⟩ => ⟨(), trivial, he, vcm_mk hv hO⟩
theorem v_getn_c {w0 : World} {A : List HProp} {v dk m : Nat} {d : VD} {k : PK} (hk : PkOk k) (h0 : d.parts k = none) : Fun Tryd.prog w0 13 [.pointer (some ⟨v, 0, none⟩), .string k.flow, .int .i64 k.num, .agg #[.int .i64 k.kind, .int .i64 k.n]] (vcm v dk d m :: A) (Ret w0 (fun _ : Unit => True) (fun _ => .tuple #[.slice none 0 0, .int .i64 6]) (fun _ => vcm v dk d m :: A)) := by
  refine Fun.ex (fun w h => vcm_open h) ?_
  rintro ⟨j, s⟩ hi
  have hi' : Vc ⟨s.st, s.n, false⟩ m := by have := hi; obtain ⟨st, n, sick⟩ := s; obtain rfl : sick = false := hi.sick; exact this
  exact (v_get_none hk h0).mono fun e w ⟨i, _, he, hO⟩ => ⟨(), trivial, he, vcm_mk hi' hO⟩
theorem v_gets_c {w0 : World} {A : List HProp} {v dk m : Nat} {d : VD} {k : PK} {b : List UInt8} (hk : PkOk k) (h0 : d.parts k = some b) : Fun Tryd.prog w0 13 [.pointer (some ⟨v, 0, none⟩), .string k.flow, .int .i64 k.num, .agg #[.int .i64 k.kind, .int .i64 k.n]] (vcm v dk d m :: A) (Ret w0 (fun i : Option Addr × Nat => b.length ≤ i.2) (fun i => .tuple #[.slice i.1 b.length i.2, .int .i64 0]) (fun i => row i.1 i.2 1 5 (u8s b) :: vcm v dk d m :: A)) := by
  refine Fun.ex (fun w h => vcm_open h) ?_
  rintro ⟨j, s⟩ hi
  have hi' : Vc ⟨s.st, s.n, false⟩ m := by have := hi; obtain ⟨st, n, sick⟩ := s; obtain rfl : sick = false := hi.sick; exact this
  exact (v_get_some hk h0).mono fun e w ⟨i, h1, he, hO⟩ => ⟨i, h1, he, (vcm_mk hi' (hO.ix [1, 2, 3, 0])).pk1⟩
theorem VRep.new {mp mf : Nat} : VRep VD.new ⟨mp, mf, [], []⟩ := ⟨by simp, fun _ => rfl, fun x hx => (by cases hx), by simp, fun _ => rfl⟩
theorem v_open_c {w0 : World} {A : List HProp} {dk : Nat} : Fun Tryd.prog w0 8 [.pointer (some ⟨dk, 0, none⟩)] (pdisk dk newD :: A) (Ret w0 (fun _ : Nat => True) (fun v => .tuple #[.pointer (some ⟨v, 0, none⟩), .int .i64 0]) (fun v => vcm v dk VD.new 0 :: A)) := by
  have hrd : readS vnm newD = ([], 21) := rfl
  have hop : openS vnm newD = (newD, 0) := by
    unfold openS
    rw [if_neg (by decide), if_neg (fun h => h vnm_ok), hrd, recsB_nil, if_pos rfl]
  refine Fun.enter Tryd.func8 rfl Tryd.ntmps8 rfl ?_
  refine WC.seq <| WC.region <| sv (vaP rfl) <| sv (vaI rfl) <| WL.nil <| WX.thenN <| WC.seq <| WC.region <| sv (vmP rfl) <| clx (by repeat' (first | with_reducible exact Sb.all | exact Sb.nil | (apply Sb.cons; focus (first | ((repeat (first | with_reducible exact Tk.here | with_reducible apply Tk.there)); done) | ((repeat (first | exact Tk.here | apply Tk.there)); done))) | apply Sb.drop)) (journal_open_ok (nm := vnm) (st := newD) (by decide) hop) ct17 rfl fun r1 hr1 => ?_
  obtain ⟨j, rb, rc, l⟩ := r1
  obtain ⟨g1, g2⟩ := hr1
  rw [hrd, recsB_nil] at g1
  obtain rfl : l = [] := by cases l with | nil => rfl | cons a b => simp at g1
  dsimp only
  refine sv vmv <| sv (vex rfl rfl) <| sv (vex rfl rfl) <| sv (vex rfl rfl) <| sv (vaP rfl) <| sv (vaS rfl) <| sv (vaI rfl) <| WL.nil <| WX.thenN <| WC.seq <| WC.seq <| WC.region <| sv (vmI rfl) <| sv (vne rfl rfl) <| WL.nil <| WX.thenN <| ?_
  refine WC.ite rfl (fun h1 => ?_) (fun h1 => ?_)
  · -- then
    exact absurd rfl h1
  · -- else
    refine WC.skip <| WX.thenN <| WC.seq <| WC.region <| mkmK KP fun b2 =>mkm .string fun b3 => sv (vmP rfl) <| sv (vbd (ps := [(0, .map _), (1, .map _), (2, .pointer _)]) (cs := [_, _, _, _]) bt56 zt56 rfl (by rfl)) <| bxc (v := .agg _) (cs := [.map _, .map _, .pointer _, .bool _]) rfl rfl fun b5 => sv (vaP rfl) <| WL.nil <| WX.thenN <| WC.seq <| WC.seq <| WC.region <| sv (vmS rfl) <| sv (vlen Tryd.underlying50 rfl) <| sv (vmI rfl) <| WL.nil <| WX.thenN <| WC.block <| ?_
    refine WC.loopS (ι := Unit) (fun qq => [(26, .int .i64 0)]) [(7, .pointer _), (24, .slice _ _ _), (25, .int _ _)] (fun qq => True) (fun qq => 0) (()) (trivial) ⟨rfl, trivial⟩ ⟨rfl, rfl, rfl, trivial⟩ ?_
    intro _ _ ρh
    refine WC.seq <| WC.region <| sv (vlt rfl rfl) <| WL.nil <| WX.thenN <| WC.seq <| ?_
    refine WC.ite rfl (fun h2 => ?_) (fun h2 => ?_)
    · -- then
      exact absurd h2 (by simp)
    · -- else
      exact WC.exit <| WX.thenE <| WX.thenE <| WX.blockH <| WX.thenN <| WC.seq <| WC.region <| sv (vmP rfl) <| sv (vaP rfl) <| sv (vaI rfl) <| WL.nil <| WX.thenN <| WC.ret <| WX.ret2 rfl (b5) (trivial) rfl (fun w h => by have h1 := (Own.sp5 (X1 := cel b5 (vcl ⟨b2, b3, [], []⟩ j false) 56) (X2 := mpk KP b2 []) (X3 := mp .string b3 []) (X4 := rows 5 []) (X5 := cel j (jcells dk vnm 0 false) 80) (by repeat' (first | exact Spl.nil | (apply Spl.cons; focus (first | ((repeat (first | with_reducible exact Tk.here | with_reducible apply Tk.there)); done) | ((repeat (first | exact Tk.here | apply Tk.there)); done))))) h); have h2 := pv_mk (v := b5) (j := j) (down := false) (d := VD.new) (i := ⟨b2, b3, [], []⟩) VRep.new h1; have h3 := vcm_mk (v := b5) (dk := dk) (j := j) (m := 0) (d := VD.new) (s := ⟨newD, 0, false⟩) Vc.new (Own.sp3 (by repeat' (first | exact Spl.nil | (apply Spl.cons; focus (first | ((repeat (first | with_reducible exact Tk.here | with_reducible apply Tk.there)); done) | ((repeat (first | exact Tk.here | apply Tk.there)); done))))) h2); exact Sb.own (by repeat' (first | with_reducible exact Sb.all | exact Sb.nil | (apply Sb.cons; focus (first | ((repeat (first | with_reducible exact Tk.here | with_reducible apply Tk.there)); done) | ((repeat (first | exact Tk.here | apply Tk.there)); done))) | apply Sb.drop)) h3)
end Go.Proofs.YthljpljbpbkkcaaDoor
