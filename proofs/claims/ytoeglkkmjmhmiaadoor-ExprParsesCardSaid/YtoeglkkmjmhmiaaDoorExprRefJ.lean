/-
  Layer 4: the document's values.
-/
import Derived.Test.YtoeglkkmjmhmiaaDoorExprRefI
set_option linter.unusedVariables false
set_option linter.unusedSimpArgs false
set_option maxRecDepth 4000
namespace Go.Proofs.YtoeglkkmjmhmiaaDoor
open Go.Sl Go.RowKit Go.Expr Go.Shelf

abbrev fe (n t v : Int) : Tr → Value := fun x => .int .i64 (evalI n t v x)
theorem bit_dec {p : Prop} [Decidable p] : (if (decide p) = true then (1 : Int) else 0) = bit p := by unfold bit; simp
theorem ref_eval {w0 : World} {A : List HProp} {x : Nat} {tr : Tr} {n t v : Int} (hsz : Expr.sizeT tr ≤ 64) : Fun Tryd.prog w0 18 [.pointer (some ⟨x, 0, none⟩), .int .i64 n, .int .i64 t, .int .i64 v] (rex x tr :: A) (Ret w0 (fun _ : Unit => True) (fun _ => .int .i64 (evalI n t v tr)) (fun _ => rex x tr :: A)) := by
  refine Fun.ex (fun w h => rex_open h) ?_
  rintro ⟨L, T, bL, cL, r⟩ hi
  obtain ⟨nds, hroot, hsize, hcap, hbig⟩ := hi
  dsimp only at nds hroot hsize hcap hbig ⊢
  have hi : XRep tr ⟨L, T, bL, cL, r⟩ := ⟨nds, hroot, hsize, hcap, hbig⟩
  have hlen := nds.len
  have hfl := fla_length (f := ndv) (l := L) ndv_len
  have hfv : ∀ i, (fv (fe n t v) (.int .i64 0) T i).length = T.length := fun i => fv_len
  refine Fun.enter Tryd.func18 rfl Tryd.ntmps18 rfl ?_
  refine WC.seq <| WC.region <| sv (vaI rfl) <| WL.nil <| WX.thenN <| WC.seq <| WC.region <| sv (vmP rfl) <| sv (vnil rfl) <| sv (vfldpz fl52f0 rfl) <| sv (vldc pl50 rfl) <| sv (vlen Tryd.underlying50 rfl) <| mk Tryd.underlying39 zt3 rfl rfl (by omega) (by omega) (by omega) (by omega) fun b2 => ?_
  refine pm (fun _ h => made_fv (f := fe n t v) (T := T) rfl (by simp only [maxLen]; omega) (show Own w0 (cel b2 (madeCells (Value.int .i64 0).cells (T.length * 1)).toList 3 :: _) _ by rw [← hlen]; exact h)) ?_
  refine sv (vaS rfl) <| WL.nil <| WX.thenN <| WC.seq <| WC.seq <| WC.region <| sv (vaI rfl) <| WL.nil <| WX.thenN <| WC.block <| ?_
  refine WC.loop (ι := Nat) (fun i => [(10, .int .i64 ((i : Nat) : Int))]) [(0, .pointer _), (1, .int _ _), (2, .int _ _), (3, .int _ _), (9, .slice _ _ _)] (fun i => cel x [.slice bL L.length cL, .int .i64 (r : Nat)] 52 :: row bL cL 4 63 (fla ndv L) :: row (some ⟨b2, 0, none⟩) T.length 1 3 (fv (fe n t v) (.int .i64 0) T i) :: A) (fun i => i ≤ T.length) (fun i => T.length - i) (0) (by omega) ⟨rfl, trivial⟩ ⟨rfl, rfl, rfl, rfl, rfl, trivial⟩ (fun _ h => Sb.own (by repeat' (first | with_reducible exact Sb.all | exact Sb.nil | (apply Sb.cons; focus (first | ((repeat (first | with_reducible exact Tk.here | with_reducible apply Tk.there)); done) | ((repeat (first | exact Tk.here | apply Tk.there)); done))) | apply Sb.drop)) h) ?_
  intro i hir ρh
  have hfvi := hfv i
  refine WC.seq <| WC.seq <| WC.region <| sv (vmI rfl) <| sv (vmP rfl) <| sv (vnil rfl) <| sv (vfldpz fl52f0 rfl) <| sv (vldc pl50 rfl) <| sv (vlen Tryd.underlying50 rfl) <| sv (vlt rfl rfl) <| WL.nil <| WX.thenN <| ?_
  refine WC.ite rfl (fun h1 => ?_) (fun h1 => ?_)
  · -- then
    have hil : i < T.length := by omega
    obtain ⟨d, hd⟩ : ∃ d, L[i]? = some d := ⟨_, List.getElem?_eq_getElem (by omega)⟩
    obtain ⟨u, hu⟩ : ∃ u, T[i]? = some u := ⟨_, List.getElem?_eq_getElem hil⟩
    have hok := nds.ok i d u hd hu
    have hpos : 0 < (fla ndv L).length := by omega
    have hag : ((fla ndv L).drop (((i : Int)).toNat * 4)).take 4 = ndv d := by rw [Int.toNat_natCast]; exact fla_of ndv_len hd
    refine WC.skip <| WX.thenN <| ?_
    refine WC.cutv (ι := Unit) (fun qq => []) [(0, .pointer _), (1, .int _ _), (2, .int _ _), (3, .int _ _), (9, .slice _ _ _), (10, .int _ _)] (fun qq => cel x [.slice bL L.length cL, .int .i64 (r : Nat)] 52 :: row bL cL 4 63 (fla ndv L) :: row (some ⟨b2, 0, none⟩) T.length 1 3 (fv (fe n t v) (.int .i64 0) T (i + 1)) :: A) (fun qq => True) ⟨rfl, rfl, rfl, rfl, rfl, rfl, trivial⟩ ?_ ?_
    · -- up to the join
      refine WC.block <| WC.seq <| WC.region <| sv (vmP rfl) <| sv (vnil rfl) <| sv (vfldpz fl52f0 rfl) <| sv (vldc pl50 rfl) <| sv (vmI rfl) <| sv (vix Tryd.underlying50 sz63 rfl rfl (by omega) (by omega) reads (hpos)) <| sv (vlda ag63 sz63 rfl reads (hag) rfl (by decide)) <| alz (cs := [.string ByteArray.empty, .int .i64 0, .int .i64 0, .int .i64 0]) zt63 (by rfl) fun b7 => stAp sz63 rfl rfl rfl (by intro v hv; simp only [List.mem_cons, List.not_mem_nil, or_false] at hv; rcases hv with rfl | rfl | rfl | rfl <;> rfl) rfl <| WL.nil <| WX.thenN <| WC.seq <| WC.region <| sv (vfldpz fl63f0 rfl) <| sv (vldc pl9 rfl) <| WL.nil <| WX.thenN <| WC.block <| WC.seq <| WC.region <| sv (veqs rfl rfl) <| sv (vaB rfl) <| WL.nil <| WX.thenN <| ?_
      refine WC.ite rfl (fun h2 => ?_) (fun h2 => ?_)
      · -- then
        obtain ⟨k, rfl, hk, hk18⟩ := inv_num hok (bse.1 h2)
        exact WC.region <| sv (vmS rfl) <| sv (vmI rfl) <| sv (vfldp fl63f1 rfl) <| sv (vw (v' := .int .i64 ((k : Nat) : Int)) (vldc pl3 rfl) (iv hk)) <| sv (vix1 Tryd.underlying39 sz3 rfl rfl (by omega) (by omega) reads (by omega)) <| strp (v := .int _ _) pl3 sz3 rfl rfl rfl (by omega) <| WL.nil <| WX.blockN <| WX.blockN <| WX.mid (()) (trivial) trivial ⟨rfl, rfl, rfl, rfl, rfl, rfl, trivial⟩ (fun w h => by rw [← fv_put (f := fe n t v) (z := .int .i64 0) hu rfl]; exact Sb.own (by repeat' (first | with_reducible exact Sb.all | exact Sb.nil | (apply Sb.cons; focus (first | ((repeat (first | with_reducible exact Tk.here | with_reducible apply Tk.there)); done) | ((repeat (first | exact Tk.here | apply Tk.there)); done))) | apply Sb.drop)) h)
      · -- else
        refine WC.seq <| WC.region <| sv (veqs rfl rfl) <| sv (vaB rfl) <| WL.nil <| WX.thenN <| ?_
        refine WC.ite rfl (fun h3 => ?_) (fun h3 => ?_)
        · -- then
          obtain rfl := inv_nm hok (.inl rfl) (bse.1 h3)
          exact WC.region <| sv (vmS rfl) <| sv (vmI rfl) <| sv (vmI rfl) <| sv (vix1 Tryd.underlying39 sz3 rfl rfl (by omega) (by omega) reads (by omega)) <| strp (v := .int _ _) pl3 sz3 rfl rfl rfl (by omega) <| WL.nil <| WX.blockN <| WX.blockN <| WX.mid (()) (trivial) trivial ⟨rfl, rfl, rfl, rfl, rfl, rfl, trivial⟩ (fun w h => by rw [← fv_put (f := fe n t v) (z := .int .i64 0) (v := .int .i64 n) hu rfl]; exact Sb.own (by repeat' (first | with_reducible exact Sb.all | exact Sb.nil | (apply Sb.cons; focus (first | ((repeat (first | with_reducible exact Tk.here | with_reducible apply Tk.there)); done) | ((repeat (first | exact Tk.here | apply Tk.there)); done))) | apply Sb.drop)) h)
        · -- else
          refine WC.seq <| WC.region <| sv (veqs rfl rfl) <| sv (vaB rfl) <| WL.nil <| WX.thenN <| ?_
          refine WC.ite rfl (fun h4 => ?_) (fun h4 => ?_)
          · -- then
            obtain rfl := inv_nm hok (.inr (.inl rfl)) (bse.1 h4)
            exact WC.region <| sv (vmS rfl) <| sv (vmI rfl) <| sv (vmI rfl) <| sv (vix1 Tryd.underlying39 sz3 rfl rfl (by omega) (by omega) reads (by omega)) <| strp (v := .int _ _) pl3 sz3 rfl rfl rfl (by omega) <| WL.nil <| WX.blockN <| WX.blockN <| WX.mid (()) (trivial) trivial ⟨rfl, rfl, rfl, rfl, rfl, rfl, trivial⟩ (fun w h => by rw [← fv_put (f := fe n t v) (z := .int .i64 0) (v := .int .i64 t) hu rfl]; exact Sb.own (by repeat' (first | with_reducible exact Sb.all | exact Sb.nil | (apply Sb.cons; focus (first | ((repeat (first | with_reducible exact Tk.here | with_reducible apply Tk.there)); done) | ((repeat (first | exact Tk.here | apply Tk.there)); done))) | apply Sb.drop)) h)
          · -- else
            refine WC.seq <| WC.region <| sv (veqs rfl rfl) <| sv (vaB rfl) <| WL.nil <| WX.thenN <| ?_
            refine WC.ite rfl (fun h5 => ?_) (fun h5 => ?_)
            · -- then
              obtain rfl := inv_nm hok (.inr (.inr rfl)) (bse.1 h5)
              exact WC.region <| sv (vmS rfl) <| sv (vmI rfl) <| sv (vmI rfl) <| sv (vix1 Tryd.underlying39 sz3 rfl rfl (by omega) (by omega) reads (by omega)) <| strp (v := .int _ _) pl3 sz3 rfl rfl rfl (by omega) <| WL.nil <| WX.blockN <| WX.blockN <| WX.mid (()) (trivial) trivial ⟨rfl, rfl, rfl, rfl, rfl, rfl, trivial⟩ (fun w h => by rw [← fv_put (f := fe n t v) (z := .int .i64 0) (v := .int .i64 v) hu rfl]; exact Sb.own (by repeat' (first | with_reducible exact Sb.all | exact Sb.nil | (apply Sb.cons; focus (first | ((repeat (first | with_reducible exact Tk.here | with_reducible apply Tk.there)); done) | ((repeat (first | exact Tk.here | apply Tk.there)); done))) | apply Sb.drop)) h)
            · -- else
              refine WC.seq <| WC.region <| sv (veqs rfl rfl) <| sv (vaB rfl) <| WL.nil <| WX.thenN <| ?_
              refine WC.ite rfl (fun h6 => ?_) (fun h6 => ?_)
              · -- then
                obtain ⟨y, l, rfl, hdl, hli, hTl⟩ := inv_sg (neg := true) hok (bse.1 h6)
                exact WC.region <| sv (vmS rfl) <| sv (vmI rfl) <| sv (vmS rfl) <| sv (vfldp fl63f2 rfl) <| sv (vw (v' := .int .i64 ((l : Nat) : Int)) (vldc pl3 rfl) (iv hdl)) <| sv (vix1 Tryd.underlying39 sz3 rfl rfl (by omega) (by omega) reads (by omega)) <| sv (vldr pl3 rfl (by rw [Int.toNat_natCast]; exact fv_at hTl hli)) <| sv (vsubr rfl rfl) <| sv (vix1 Tryd.underlying39 sz3 rfl rfl (by omega) (by omega) reads (by omega)) <| strp (v := .int _ _) pl3 sz3 rfl rfl rfl (by omega) <| WL.nil <| WX.blockN <| WX.blockN <| WX.mid (()) (trivial) trivial ⟨rfl, rfl, rfl, rfl, rfl, rfl, trivial⟩ (fun w h => by rw [← fv_put (f := fe n t v) (z := .int .i64 0) hu rfl]; exact Sb.own (by repeat' (first | with_reducible exact Sb.all | exact Sb.nil | (apply Sb.cons; focus (first | ((repeat (first | with_reducible exact Tk.here | with_reducible apply Tk.there)); done) | ((repeat (first | exact Tk.here | apply Tk.there)); done))) | apply Sb.drop)) h)
              · -- else
                refine WC.seq <| WC.region <| sv (veqs rfl rfl) <| sv (vaB rfl) <| WL.nil <| WX.thenN <| ?_
                refine WC.ite rfl (fun h7 => ?_) (fun h7 => ?_)
                · -- then
                  obtain ⟨y, l, rfl, hdl, hli, hTl⟩ := inv_sg (neg := false) hok (bse.1 h7)
                  refine WC.region <| sv (vmS rfl) <| sv (vmI rfl) <| sv (vmS rfl) <| sv (vfldp fl63f2 rfl) <| sv (vw (v' := .int .i64 ((l : Nat) : Int)) (vldc pl3 rfl) (iv hdl)) <| sv (vix1 Tryd.underlying39 sz3 rfl rfl (by omega) (by omega) reads (by omega)) <| sv (vldr pl3 rfl (by rw [Int.toNat_natCast]; exact fv_at hTl hli)) <| sv (veq rfl rfl) <| clx (by repeat' (first | with_reducible exact Sb.all | exact Sb.nil | (apply Sb.cons; focus (first | ((repeat (first | with_reducible exact Tk.here | with_reducible apply Tk.there)); done) | ((repeat (first | exact Tk.here | apply Tk.there)); done))) | apply Sb.drop)) (ref_bit) ct28 rfl fun r28 hr28 => ?_
                  exact sv (vix1 Tryd.underlying39 sz3 rfl rfl (by omega) (by omega) reads (by omega)) <| strp (v := .int _ _) pl3 sz3 rfl rfl rfl (by omega) <| WL.nil <| WX.blockN <| WX.blockN <| WX.mid (()) (trivial) trivial ⟨rfl, rfl, rfl, rfl, rfl, rfl, trivial⟩ (fun w h => by rw [← fv_put (f := fe n t v) (z := .int .i64 0) hu (iv bit_dec.symm)]; exact Sb.own (by repeat' (first | with_reducible exact Sb.all | exact Sb.nil | (apply Sb.cons; focus (first | ((repeat (first | with_reducible exact Tk.here | with_reducible apply Tk.there)); done) | ((repeat (first | exact Tk.here | apply Tk.there)); done))) | apply Sb.drop)) h)
                · -- else
                  obtain ⟨o, y, z, l, m, rfl, hop, hdl, hdr, hli, hmi, hTl, hTm⟩ := inv_bn hok (fun e => h2 (bse.2 e)) (fun c hc e => by rcases hc with rfl | rfl | rfl; exact h3 (bse.2 e); exact h4 (bse.2 e); exact h5 (bse.2 e)) (fun neg e => by cases neg; exact h7 (bse.2 e); exact h6 (bse.2 e))
                  exact WC.plan (.bar [0, 1, 2, 3, 4, 5, 6, 7, 8, 9, 10, 11, 12, 13, 14, 15] 16 (.done [])) rfl (by kernel_rfl) <| WPl.barC <| dv (fun g => (vmS rfl)) <| dv (fun g => (vmI rfl)) <| dv (fun g => (vfldpz fl63f0 rfl)) <| dv (fun g => (vw (v' := .string (bs o.bytes)) (vldc pl9 rfl) (by rw [hop]))) <| dv (fun g => (vmS rfl)) <| dv (fun g => (vfldp fl63f2 rfl)) <| dv (fun g => (vw (v' := .int .i64 ((l : Nat) : Int)) (vldc pl3 rfl) (iv hdl))) <| dv (fun g => (vix1 Tryd.underlying39 sz3 rfl rfl (by omega) (by omega) reads (by omega))) <| dv (fun g => (vldr pl3 rfl (by rw [Int.toNat_natCast]; exact fv_at hTl hli))) <| dv (fun g => (vmS rfl)) <| dv (fun g => (vfldp fl63f3 rfl)) <| dv (fun g => (vw (v' := .int .i64 ((m : Nat) : Int)) (vldc pl3 rfl) (iv hdr))) <| dv (fun g => (vix1 Tryd.underlying39 sz3 rfl rfl (by omega) (by omega) reads (by omega))) <| dv (fun g => (vldr pl3 rfl (by rw [Int.toNat_natCast]; exact fv_at hTm hmi))) <| dcl (fun g => Fun.quiet ref_two) ct19 rfl <| dv (fun g => (vix1 Tryd.underlying39 sz3 rfl rfl (by omega) (by omega) reads (by omega))) <| WD.eff rfl <| strp (v := .int _ _) pl3 sz3 rfl rfl rfl (by omega) <| WL.nil <| WX.brT <| WPl.finC <| WD.nil <| WX.blockN <| WX.blockN <| WX.mid (()) (trivial) trivial ⟨rfl, rfl, rfl, rfl, rfl, rfl, trivial⟩ (fun w h => by rw [← fv_put (f := fe n t v) (z := .int .i64 0) hu rfl]; exact Sb.own (by repeat' (first | with_reducible exact Sb.all | exact Sb.nil | (apply Sb.cons; focus (first | ((repeat (first | with_reducible exact Tk.here | with_reducible apply Tk.there)); done) | ((repeat (first | exact Tk.here | apply Tk.there)); done))) | apply Sb.drop)) h)
    · -- behind the join
      intro _ _ ρh
      exact WC.region <| sv (vmI rfl) <| sv (vadd rfl rfl (by omega)) <| sv (vaI rfl) <| WL.nil <| WX.again (i + 1) (by omega) (by omega) ⟨rfl, trivial⟩ ⟨rfl, rfl, rfl, rfl, rfl, trivial⟩ (fun _ h => Sb.own (by repeat' (first | with_reducible exact Sb.all | exact Sb.nil | (apply Sb.cons; focus (first | ((repeat (first | with_reducible exact Tk.here | with_reducible apply Tk.there)); done) | ((repeat (first | exact Tk.here | apply Tk.there)); done))) | apply Sb.drop)) h)
  · -- else
    have hrl := (List.getElem?_eq_some_iff.1 hroot).1
    exact WC.exit <| WX.thenE <| WX.thenE <| WX.blockH <| WX.thenN <| WC.seq <| WC.region <| sv (vmS rfl) <| sv (vmP rfl) <| sv (vnil rfl) <| sv (vfldp fl52f1 rfl) <| sv (vldc pl3 rfl) <| sv (vix1 Tryd.underlying39 sz3 rfl rfl (by omega) (by omega) reads (by omega)) <| sv (vldr pl3 rfl (by rw [Int.toNat_natCast]; exact fv_at hroot (by omega))) <| sv (vaI rfl) <| WL.nil <| WX.thenN <| WC.ret <| WX.ret1 rfl (()) (trivial) rfl (fun w h => by have h2 := rex_mk (x := x) (t := tr) (i := ⟨L, T, bL, cL, r⟩) hi (Own.sp2 (by repeat' (first | exact Spl.nil | (apply Spl.cons; focus (first | ((repeat (first | with_reducible exact Tk.here | with_reducible apply Tk.there)); done) | ((repeat (first | exact Tk.here | apply Tk.there)); done))))) h); exact Sb.own (by repeat' (first | with_reducible exact Sb.all | exact Sb.nil | (apply Sb.cons; focus (first | ((repeat (first | with_reducible exact Tk.here | with_reducible apply Tk.there)); done) | ((repeat (first | exact Tk.here | apply Tk.there)); done))) | apply Sb.drop)) h2)
end Go.Proofs.YtoeglkkmjmhmiaaDoor
