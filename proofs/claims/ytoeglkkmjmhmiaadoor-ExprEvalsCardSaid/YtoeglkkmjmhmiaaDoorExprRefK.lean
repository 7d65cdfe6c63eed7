/-
  Layer 4: the document's texts and sizes.
-/
import Derived.Test.YtoeglkkmjmhmiaaDoorExprRefJ
set_option linter.unusedVariables false
set_option linter.unusedSimpArgs false
set_option maxRecDepth 4000
namespace Go.Proofs.YtoeglkkmjmhmiaaDoor
open Go.Sl Go.RowKit Go.Expr Go.Shelf

abbrev ft : Tr → Value := fun x => .string (bs (txt x))
abbrev z0 : Value := .string ByteArray.empty
theorem bs_cat (l m : List UInt8) : bs l ++ bs m = bs (l ++ m) := by
  apply ByteArray.ext
  rw [ByteArray.data_append]
  simp [bs]
theorem bn_txt2 {o : Bo} {x y : Tr} : ByteArray.mk #[40] ++ bs (txt x) ++ ByteArray.mk #[32] ++ bs o.bytes ++ ByteArray.mk #[32] ++ bs (txt y) ++ ByteArray.mk #[41] = bs (txt (.bn o x y)) := bn_txt (o := o)
theorem ref_text {w0 : World} {A : List HProp} {x : Nat} {tr : Tr} (hsz : Expr.sizeT tr ≤ 64) : Fun Tryd.prog w0 14 [.pointer (some ⟨x, 0, none⟩)] (rex x tr :: A) (Ret w0 (fun _ : Unit => True) (fun _ => .string (bs (txt tr))) (fun _ => rex x tr :: A)) := by
  refine Fun.ex (fun w h => rex_open h) ?_
  rintro ⟨L, T, bL, cL, r⟩ hi
  obtain ⟨nds, hroot, hsize, hcap, hbig⟩ := hi
  dsimp only at nds hroot hsize hcap hbig ⊢
  have hi : XRep tr ⟨L, T, bL, cL, r⟩ := ⟨nds, hroot, hsize, hcap, hbig⟩
  have hlen := nds.len
  have hfl := fla_length (f := ndv) (l := L) ndv_len
  have hfv : ∀ i, (fv ft z0 T i).length = T.length := fun i => fv_len
  have hB : ∀ i u, T[i]? = some u → (bs (txt u)).size ≤ 24000 := fun i u hu => by
    have h1 := txt_len (nds_sm nds i i u (Nat.le_refl _) hu)
    have h2 := hbig u (List.mem_of_getElem? hu)
    rw [bs_size]; omega
  refine Fun.enter Tryd.func14 rfl Tryd.ntmps14 rfl ?_
  refine WC.seq <| WC.region <| sv (vaT rfl) <| WL.nil <| WX.thenN <| WC.seq <| WC.region <| sv (vmP rfl) <| sv (vnil rfl) <| sv (vfldpz fl52f0 rfl) <| sv (vldc pl50 rfl) <| sv (vlen Tryd.underlying50 rfl) <| mk Tryd.underlying35 zt9 rfl rfl (by omega) (by omega) (by omega) (by omega) fun b2 => ?_
  refine pm (fun _ h => made_fv (f := ft) (T := T) (z := z0) rfl (by simp only [maxLen]; omega) (show Own w0 (cel b2 (madeCells (Value.string ByteArray.empty).cells (T.length * 1)).toList 9 :: _) _ by rw [← hlen]; exact h)) ?_
  refine sv (vaS rfl) <| WL.nil <| WX.thenN <| WC.seq <| WC.seq <| WC.region <| sv (vaI rfl) <| WL.nil <| WX.thenN <| WC.block <| ?_
  refine WC.loop (ι := Nat) (fun i => [(4, .int .i64 ((i : Nat) : Int))]) [(0, .pointer _), (3, .slice _ _ _)] (fun i => cel x [.slice bL L.length cL, .int .i64 (r : Nat)] 52 :: row bL cL 4 63 (fla ndv L) :: row (some ⟨b2, 0, none⟩) T.length 1 9 (fv ft z0 T i) :: A) (fun i => i ≤ T.length) (fun i => T.length - i) (0) (by omega) ⟨rfl, trivial⟩ ⟨rfl, rfl, trivial⟩ (fun _ h => Sb.own (by repeat' (first | with_reducible exact Sb.all | exact Sb.nil | (apply Sb.cons; focus (first | ((repeat (first | with_reducible exact Tk.here | with_reducible apply Tk.there)); done) | ((repeat (first | exact Tk.here | apply Tk.there)); done))) | apply Sb.drop)) h) ?_
  intro i hir ρh
  have hfvi := hfv i
  refine WC.seq <| WC.seq <| WC.region <| sv (vmI rfl) <| sv (vmP rfl) <| sv (vnil rfl) <| sv (vfldpz fl52f0 rfl) <| sv (vldc pl50 rfl) <| sv (vlen Tryd.underlying50 rfl) <| sv (vlt rfl rfl) <| WL.nil <| WX.thenN <| ?_
  refine WC.ite rfl (fun h1 => ?_) (fun h1 => ?_)
  · -- then
    have hil : i < T.length := by omega
    obtain ⟨d, hd⟩ : ∃ d, L[i]? = some d := ⟨_, List.getElem?_eq_getElem (by omega)⟩
    obtain ⟨u, hu⟩ : ∃ u, T[i]? = some u := ⟨_, List.getElem?_eq_getElem hil⟩
    have hok := nds.ok i d u hd hu
    have hpos : 0 < (fla ndv L).length := by omega
    have hag : ((fla ndv L).drop (((i : Int)).toNat * 4)).take 4 = ndv d := by rw [Int.toNat_natCast]; exact fla_of ndv_len hd
    refine WC.skip <| WX.thenN <| ?_
    refine WC.cutv (ι := Unit) (fun qq => []) [(0, .pointer _), (3, .slice _ _ _), (4, .int _ _)] (fun qq => cel x [.slice bL L.length cL, .int .i64 (r : Nat)] 52 :: row bL cL 4 63 (fla ndv L) :: row (some ⟨b2, 0, none⟩) T.length 1 9 (fv ft z0 T (i + 1)) :: A) (fun qq => True) ⟨rfl, rfl, rfl, trivial⟩ ?_ ?_
    · -- up to the join
      refine WC.block <| WC.seq <| WC.region <| sv (vmP rfl) <| sv (vnil rfl) <| sv (vfldpz fl52f0 rfl) <| sv (vldc pl50 rfl) <| sv (vmI rfl) <| sv (vix Tryd.underlying50 sz63 rfl rfl (by omega) (by omega) reads (hpos)) <| sv (vlda ag63 sz63 rfl reads (hag) rfl (by decide)) <| alz (cs := [.string ByteArray.empty, .int .i64 0, .int .i64 0, .int .i64 0]) zt63 (by rfl) fun b7 => stAp sz63 rfl rfl rfl (by intro v hv; simp only [List.mem_cons, List.not_mem_nil, or_false] at hv; rcases hv with rfl | rfl | rfl | rfl <;> rfl) rfl <| WL.nil <| WX.thenN <| WC.seq <| WC.region <| sv (vfldpz fl63f0 rfl) <| sv (vldc pl9 rfl) <| WL.nil <| WX.thenN <| WC.block <| WC.seq <| WC.region <| sv (veqs rfl rfl) <| sv (vaB rfl) <| WL.nil <| WX.thenN <| ?_
      refine WC.ite rfl (fun h2 => ?_) (fun h2 => ?_)
      · -- then
        obtain ⟨k, rfl, hk, hk18⟩ := inv_num hok (bse.1 h2)
        refine WC.region <| sv (vmS rfl) <| sv (vmI rfl) <| sv (vfldp fl63f1 rfl) <| sv (vw (v' := .int .i64 ((k : Nat) : Int)) (vldc pl3 rfl) (iv hk)) <| clx (by repeat' (first | with_reducible exact Sb.all | exact Sb.nil | (apply Sb.cons; focus (first | ((repeat (first | with_reducible exact Tk.here | with_reducible apply Tk.there)); done) | ((repeat (first | exact Tk.here | apply Tk.there)); done))) | apply Sb.drop)) (ref_dec hk18) ct27 rfl fun r11 hr11 => ?_
        exact sv (vix1 Tryd.underlying35 sz9 rfl rfl (by omega) (by omega) reads (by omega)) <| strp (v := .string _) pl9 sz9 rfl rfl rfl (by omega) <| WL.nil <| WX.blockN <| WX.blockN <| WX.mid (()) (trivial) trivial ⟨rfl, rfl, rfl, trivial⟩ (fun w h => by rw [← fv_put (f := ft) (z := z0) (v := .string (bs (Lib.decDigits k))) hu (by show Value.string (bs (txt (.num k))) = _; rw [txt_num])]; exact Sb.own (by repeat' (first | with_reducible exact Sb.all | exact Sb.nil | (apply Sb.cons; focus (first | ((repeat (first | with_reducible exact Tk.here | with_reducible apply Tk.there)); done) | ((repeat (first | exact Tk.here | apply Tk.there)); done))) | apply Sb.drop)) h)
      · -- else
        refine WC.cutvS (ι := Unit) (fun qq => [(59, .bool (decide (d.op = [110] ∨ d.op = [116] ∨ d.op = [118])))]) [(0, .pointer _), (3, .slice _ _ _), (4, .int _ _), (5, _), (29, .string _)] (fun qq => True) ⟨rfl, rfl, rfl, rfl, rfl, trivial⟩ ?_ ?_
        · -- up to the join
          refine WC.seq <| WC.region <| sv (veqs rfl rfl) <| sv (vaB rfl) <| WL.nil <| WX.thenN <| ?_
          refine WC.ite rfl (fun h3 => ?_) (fun h3 => ?_)
          · -- then
            exact WC.skip <| WX.mid (()) (trivial) ⟨bI ⟨fun _ => .inl (bse.1 h3), fun _ => h3⟩, trivial⟩ ⟨rfl, rfl, rfl, rfl, rfl, trivial⟩ (fun _ h => Sb.own (by repeat' (first | with_reducible exact Sb.all | exact Sb.nil | (apply Sb.cons; focus (first | ((repeat (first | with_reducible exact Tk.here | with_reducible apply Tk.there)); done) | ((repeat (first | exact Tk.here | apply Tk.there)); done))) | apply Sb.drop)) h)
          · -- else
            refine WC.seq <| WC.region <| sv (veqs rfl rfl) <| sv (vaB rfl) <| WL.nil <| WX.thenN <| ?_
            refine WC.ite rfl (fun h4 => ?_) (fun h4 => ?_)
            · -- then
              exact WC.skip <| WX.mid (()) (trivial) ⟨bI ⟨fun _ => .inr (.inl (bse.1 h4)), fun _ => h4⟩, trivial⟩ ⟨rfl, rfl, rfl, rfl, rfl, trivial⟩ (fun _ h => Sb.own (by repeat' (first | with_reducible exact Sb.all | exact Sb.nil | (apply Sb.cons; focus (first | ((repeat (first | with_reducible exact Tk.here | with_reducible apply Tk.there)); done) | ((repeat (first | exact Tk.here | apply Tk.there)); done))) | apply Sb.drop)) h)
            · -- else
              exact WC.region <| sv (veqs rfl rfl) <| sv (vaB rfl) <| WL.nil <| WX.mid (()) (trivial) ⟨bI (by rw [bse]; exact ⟨fun h => .inr (.inr h), fun h => by rcases h with h | h | h; exact absurd (bse.2 h) h3; exact absurd (bse.2 h) h4; exact h⟩), trivial⟩ ⟨rfl, rfl, rfl, rfl, rfl, trivial⟩ (fun _ h => Sb.own (by repeat' (first | with_reducible exact Sb.all | exact Sb.nil | (apply Sb.cons; focus (first | ((repeat (first | with_reducible exact Tk.here | with_reducible apply Tk.there)); done) | ((repeat (first | exact Tk.here | apply Tk.there)); done))) | apply Sb.drop)) h)
        · -- behind the join
          intro _ _ ρh
          refine WC.ite rfl (fun h5 => ?_) (fun h5 => ?_)
          · -- then
            obtain ⟨c, hc, hop⟩ : ∃ c, NmP c ∧ d.op = [c] := by rcases h5 with h | h | h; exact ⟨_, .inl rfl, h⟩; exact ⟨_, .inr (.inl rfl), h⟩; exact ⟨_, .inr (.inr rfl), h⟩
            obtain rfl := inv_nm hok hc hop
            exact WC.region <| sv (vmS rfl) <| sv (vmI rfl) <| sv (vfldpz fl63f0 rfl) <| sv (vw (v' := .string (bs [c])) (vldc pl9 rfl) (by rw [hop])) <| sv (vix1 Tryd.underlying35 sz9 rfl rfl (by omega) (by omega) reads (by omega)) <| strp (v := .string _) pl9 sz9 rfl rfl rfl (by omega) <| WL.nil <| WX.blockN <| WX.blockN <| WX.mid (()) (trivial) trivial ⟨rfl, rfl, rfl, trivial⟩ (fun w h => by rw [← fv_put (f := ft) (z := z0) (v := .string (bs [c])) hu rfl]; exact Sb.own (by repeat' (first | with_reducible exact Sb.all | exact Sb.nil | (apply Sb.cons; focus (first | ((repeat (first | with_reducible exact Tk.here | with_reducible apply Tk.there)); done) | ((repeat (first | exact Tk.here | apply Tk.there)); done))) | apply Sb.drop)) h)
          · -- else
            refine WC.seq <| WC.region <| sv (veqs rfl rfl) <| sv (vaB rfl) <| WL.nil <| WX.thenN <| ?_
            refine WC.ite rfl (fun h6 => ?_) (fun h6 => ?_)
            · -- then
              obtain ⟨y, l, rfl, hdl, hli, hTl⟩ := inv_sg (neg := true) hok (bse.1 h6)
              have hBy := hB l y hTl
              exact WC.region <| sv (vmS rfl) <| sv (vmI rfl) <| sv (vmS rfl) <| sv (vfldp fl63f2 rfl) <| sv (vw (v' := .int .i64 ((l : Nat) : Int)) (vldc pl3 rfl) (iv hdl)) <| sv (vix1 Tryd.underlying35 sz9 rfl rfl (by omega) (by omega) reads (by omega)) <| sv (vldr pl9 rfl (by rw [Int.toNat_natCast]; exact fv_at hTl hli)) <| sv (vw (v' := .string (bs (txt (.sg true y)))) (vcat rfl rfl (show 1 + (bs (txt y)).size ≤ 9223372036854775807 by omega)) rfl) <| sv (vix1 Tryd.underlying35 sz9 rfl rfl (by omega) (by omega) reads (by omega)) <| strp (v := .string _) pl9 sz9 rfl rfl rfl (by omega) <| WL.nil <| WX.blockN <| WX.blockN <| WX.mid (()) (trivial) trivial ⟨rfl, rfl, rfl, trivial⟩ (fun w h => by rw [← fv_put (f := ft) (z := z0) hu rfl]; exact Sb.own (by repeat' (first | with_reducible exact Sb.all | exact Sb.nil | (apply Sb.cons; focus (first | ((repeat (first | with_reducible exact Tk.here | with_reducible apply Tk.there)); done) | ((repeat (first | exact Tk.here | apply Tk.there)); done))) | apply Sb.drop)) h)
            · -- else
              refine WC.seq <| WC.region <| sv (veqs rfl rfl) <| sv (vaB rfl) <| WL.nil <| WX.thenN <| ?_
              refine WC.ite rfl (fun h7 => ?_) (fun h7 => ?_)
              · -- then
                obtain ⟨y, l, rfl, hdl, hli, hTl⟩ := inv_sg (neg := false) hok (bse.1 h7)
                have hBy := hB l y hTl
                exact WC.region <| sv (vmS rfl) <| sv (vmI rfl) <| sv (vmS rfl) <| sv (vfldp fl63f2 rfl) <| sv (vw (v' := .int .i64 ((l : Nat) : Int)) (vldc pl3 rfl) (iv hdl)) <| sv (vix1 Tryd.underlying35 sz9 rfl rfl (by omega) (by omega) reads (by omega)) <| sv (vldr pl9 rfl (by rw [Int.toNat_natCast]; exact fv_at hTl hli)) <| sv (vw (v' := .string (bs (txt (.sg false y)))) (vcat rfl rfl (show 1 + (bs (txt y)).size ≤ 9223372036854775807 by omega)) rfl) <| sv (vix1 Tryd.underlying35 sz9 rfl rfl (by omega) (by omega) reads (by omega)) <| strp (v := .string _) pl9 sz9 rfl rfl rfl (by omega) <| WL.nil <| WX.blockN <| WX.blockN <| WX.mid (()) (trivial) trivial ⟨rfl, rfl, rfl, trivial⟩ (fun w h => by rw [← fv_put (f := ft) (z := z0) hu rfl]; exact Sb.own (by repeat' (first | with_reducible exact Sb.all | exact Sb.nil | (apply Sb.cons; focus (first | ((repeat (first | with_reducible exact Tk.here | with_reducible apply Tk.there)); done) | ((repeat (first | exact Tk.here | apply Tk.there)); done))) | apply Sb.drop)) h)
              · -- else
                obtain ⟨o, y, z, l, m, rfl, hop, hdl, hdr, hli, hmi, hTl, hTm⟩ := inv_bn hok (fun e => h2 (bse.2 e)) (fun c hc e => h5 (by rcases hc with rfl | rfl | rfl; exact .inl e; exact .inr (.inl e); exact .inr (.inr e))) (fun neg e => by cases neg; exact h7 (bse.2 e); exact h6 (bse.2 e))
                have hBy := hB l y hTl
                have hBz := hB m z hTm
                have hob : o.bytes.length ≤ 2 := bo_len o
                exact WC.plan (.bar [0, 1, 2, 3, 4, 5, 6, 7, 8, 9, 10, 11, 12, 13, 14, 15, 16, 17, 18, 19, 20] 21 (.done [])) rfl (by kernel_rfl) <| WPl.barC <| dv (fun g => (vmS rfl)) <| dv (fun g => (vmI rfl)) <| dv (fun g => (vmS rfl)) <| dv (fun g => (vfldp fl63f2 rfl)) <| dv (fun g => (vw (v' := .int .i64 ((l : Nat) : Int)) (vldc pl3 rfl) (iv hdl))) <| dv (fun g => (vix1 Tryd.underlying35 sz9 rfl rfl (by omega) (by omega) reads (by omega))) <| dv (fun g => (vldr pl9 rfl (by rw [Int.toNat_natCast]; exact fv_at hTl hli))) <| dv (fun g => (vcat rfl rfl (by simp only [ByteArray.size_append, bs_size, mk1_size] at *; omega))) <| dv (fun g => (vcat rfl rfl (by simp only [ByteArray.size_append, bs_size, mk1_size] at *; omega))) <| dv (fun g => (vfldpz fl63f0 rfl)) <| dv (fun g => (vw (v' := .string (bs o.bytes)) (vldc pl9 rfl) (by rw [hop]))) <| dv (fun g => (vcat rfl rfl (by simp only [ByteArray.size_append, bs_size, mk1_size] at *; omega))) <| dv (fun g => (vcat rfl rfl (by simp only [ByteArray.size_append, bs_size, mk1_size] at *; omega))) <| dv (fun g => (vmS rfl)) <| dv (fun g => (vfldp fl63f3 rfl)) <| dv (fun g => (vw (v' := .int .i64 ((m : Nat) : Int)) (vldc pl3 rfl) (iv hdr))) <| dv (fun g => (vix1 Tryd.underlying35 sz9 rfl rfl (by omega) (by omega) reads (by omega))) <| dv (fun g => (vldr pl9 rfl (by rw [Int.toNat_natCast]; exact fv_at hTm hmi))) <| dv (fun g => (vcat rfl rfl (by simp only [ByteArray.size_append, bs_size, mk1_size] at *; omega))) <| dv (fun g => (vw (v' := .string (bs (txt (.bn o y z)))) (vcat rfl rfl (by simp only [ByteArray.size_append, bs_size, mk1_size] at *; omega)) (congrArg Value.string bn_txt2))) <| dv (fun g => (vix1 Tryd.underlying35 sz9 rfl rfl (by omega) (by omega) reads (by omega))) <| WD.eff rfl <| strp (v := .string _) pl9 sz9 rfl rfl rfl (by omega) <| WL.nil <| WX.brT <| WPl.finC <| WD.nil <| WX.blockN <| WX.blockN <| WX.mid (()) (trivial) trivial ⟨rfl, rfl, rfl, trivial⟩ (fun w h => by rw [← fv_put (f := ft) (z := z0) hu rfl]; exact Sb.own (by repeat' (first | with_reducible exact Sb.all | exact Sb.nil | (apply Sb.cons; focus (first | ((repeat (first | with_reducible exact Tk.here | with_reducible apply Tk.there)); done) | ((repeat (first | exact Tk.here | apply Tk.there)); done))) | apply Sb.drop)) h)
    · -- behind the join
      intro _ _ ρh
      exact WC.region <| sv (vmI rfl) <| sv (vadd rfl rfl (by omega)) <| sv (vaI rfl) <| WL.nil <| WX.again (i + 1) (by omega) (by omega) ⟨rfl, trivial⟩ ⟨rfl, rfl, trivial⟩ (fun _ h => Sb.own (by repeat' (first | with_reducible exact Sb.all | exact Sb.nil | (apply Sb.cons; focus (first | ((repeat (first | with_reducible exact Tk.here | with_reducible apply Tk.there)); done) | ((repeat (first | exact Tk.here | apply Tk.there)); done))) | apply Sb.drop)) h)
  · -- else
    have hrl := (List.getElem?_eq_some_iff.1 hroot).1
    exact WC.exit <| WX.thenE <| WX.thenE <| WX.blockH <| WX.thenN <| WC.seq <| WC.region <| sv (vmS rfl) <| sv (vmP rfl) <| sv (vnil rfl) <| sv (vfldp fl52f1 rfl) <| sv (vldc pl3 rfl) <| sv (vix1 Tryd.underlying35 sz9 rfl rfl (by omega) (by omega) reads (by omega)) <| sv (vldr pl9 rfl (by rw [Int.toNat_natCast]; exact fv_at hroot (by omega))) <| sv (vaT rfl) <| WL.nil <| WX.thenN <| WC.ret <| WX.ret1 rfl (()) (trivial) rfl (fun w h => by have h2 := rex_mk (x := x) (t := tr) (i := ⟨L, T, bL, cL, r⟩) hi (Own.sp2 (by repeat' (first | exact Spl.nil | (apply Spl.cons; focus (first | ((repeat (first | with_reducible exact Tk.here | with_reducible apply Tk.there)); done) | ((repeat (first | exact Tk.here | apply Tk.there)); done))))) h); exact Sb.own (by repeat' (first | with_reducible exact Sb.all | exact Sb.nil | (apply Sb.cons; focus (first | ((repeat (first | with_reducible exact Tk.here | with_reducible apply Tk.there)); done) | ((repeat (first | exact Tk.here | apply Tk.there)); done))) | apply Sb.drop)) h2)
theorem ref_size {w0 : World} {A : List HProp} {x : Nat} {tr : Tr} : Fun Tryd.prog w0 16 [.pointer (some ⟨x, 0, none⟩)] (rex x tr :: A) (Ret w0 (fun _ : Unit => True) (fun _ => .int .i64 (Expr.sizeT tr : Nat)) (fun _ => rex x tr :: A)) := by
  refine Fun.ex (fun w h => rex_open h) ?_
  rintro ⟨L, T, bL, cL, r⟩ hi
  have hsize := hi.size
  dsimp only at hsize ⊢
  refine Fun.enter Tryd.func16 rfl Tryd.ntmps16 rfl ?_
  exact WC.seq <| WC.region <| sv (vaI rfl) <| WL.nil <| WX.thenN <| WC.seq <| WC.region <| sv (vmP rfl) <| sv (vnil rfl) <| sv (vfldpz fl52f0 rfl) <| sv (vldc pl50 rfl) <| sv (vlen Tryd.underlying50 rfl) <| sv (vaI rfl) <| WL.nil <| WX.thenN <| WC.ret <| WX.ret1 rfl (()) (trivial) (iv (by rw [hsize])) (fun w h => by have h2 := rex_mk (x := x) (t := tr) (i := ⟨L, T, bL, cL, r⟩) hi (Own.sp2 (by repeat' (first | exact Spl.nil | (apply Spl.cons; focus (first | ((repeat (first | with_reducible exact Tk.here | with_reducible apply Tk.there)); done) | ((repeat (first | exact Tk.here | apply Tk.there)); done))))) h); exact Sb.own (by repeat' (first | with_reducible exact Sb.all | exact Sb.nil | (apply Sb.cons; focus (first | ((repeat (first | with_reducible exact Tk.here | with_reducible apply Tk.there)); done) | ((repeat (first | exact Tk.here | apply Tk.there)); done))) | apply Sb.drop)) h2)
end Go.Proofs.YtoeglkkmjmhmiaaDoor
