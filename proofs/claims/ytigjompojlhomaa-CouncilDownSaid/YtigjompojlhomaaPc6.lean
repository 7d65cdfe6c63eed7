/-
  Texts one behind the other: CouncilDoB, CouncilDoC, CouncilFew, CouncilDoD, CouncilAwake, CouncilLawA, CouncilLawB, CouncilLawC, CouncilSafe, CouncilDownP, CouncilDown.
-/
import Derived.Test.YtigjompojlhomaaPc5
section
set_option linter.unusedVariables false
set_option linter.unusedSimpArgs false
set_option maxRecDepth 4000
namespace Go.Proofs.Ytigjompojlhomaa
open Go.Sl Go.RowKit Go.Raft Go.Journal Go.Pack Go.Council

theorem CW.mailAt {S : CS} {b : CB} (h : CW S b) {n : Nat} (hn : n < S.mails.length) : ∃ m, b.ms[n]? = some m ∧ S.mails[n]? = some m.ml := by
  have hl := h.len.2
  refine ⟨b.ms[n], List.getElem?_eq_getElem (by omega), ?_⟩
  rw [← h.ms, List.getElem?_map, List.getElem?_eq_getElem (by omega)]
  rfl
theorem CW.erase {S : CS} {b : CB} (h : CW S b) {n : Nat} (hn : n < S.mails.length) : CW ⟨S.ms, S.mails.eraseIdx n⟩ { b with ms := b.ms.eraseIdx n } := by
  have hl := h.len.2
  refine ⟨h.l, ?_, ?_, h.lc⟩
  · show (b.ms.eraseIdx n).map Mh.ml = S.mails.eraseIdx n
    rw [← h.ms, List.eraseIdx_eq_take_drop_succ, List.eraseIdx_eq_take_drop_succ, List.map_append, List.map_take, List.map_drop]
  · show (b.ms.eraseIdx n).length ≤ b.mc
    have := h.mc
    rw [List.length_eraseIdx_of_lt (by omega)]; omega
/-- a mail is taken out -/
theorem cL_erase {w0 w : World} {A : List HProp} {p n : Nat} {S : CS} {b : CB} {m : Mh} (h : CW S b) (hn : n < S.mails.length) (hm : b.ms[n]? = some m) (H : Own w0 (cel p [.slice b.lb b.l.length b.lc, .slice b.mb (b.ms.length - 1 : Nat) b.mc] 58 :: row b.lb b.lc 1 59 (nptrC (b.l.map ME.q)) :: hmans b.l :: row b.mb b.mc 9 54 (mvs (b.ms.eraseIdx n)) :: mrows b.ms :: A) w) : Own w0 (hc p ⟨S.ms, S.mails.eraseIdx n⟩ :: A) w := by
  have hl := h.len.2
  have h1 := mrowsCut hm (H.ix [4, 0, 1, 2, 3])
  refine hc_mk (h.erase hn) ?_
  show Own w0 (cel p [.slice b.lb b.l.length b.lc, .slice b.mb (b.ms.eraseIdx n).length b.mc] 58 :: row b.lb b.lc 1 59 (nptrC (b.l.map ME.q)) :: hmans b.l :: row b.mb b.mc 9 54 (mvs (b.ms.eraseIdx n)) :: mrows (b.ms.eraseIdx n) :: A) w
  rw [List.length_eraseIdx_of_lt (by omega)]
  exact (h1.ix [2, 3, 4, 5, 1, 0]).ix [0, 1, 2, 3, 4] |>.pk5.tail
theorem c_do_mail {w0 : World} {A : List HProp} {p n K : Nat} {S : CS} {i keep : Int} (h : CO K S) (hK : K ≤ 505) (hn : n < S.mails.length) (hcl : ∀ m ∈ S.mails, m.cells.length ≤ 1099511627776) : Fun Try.prog w0 16 [.pointer (some ⟨p, 0, none⟩), .agg #[.int .i64 2, .int .i64 i, .int .i64 (n : Int), .int .i64 keep]] (hc p S :: A) (Ret w0 (fun _ : Unit => True) (fun _ => .int .i64 0) (fun _ => hc p (stepI (S.mails.getD n ⟨0, 0, 0, 0, 0, 0, 0, false, []⟩).to_ (fun x => takeS x (S.mails.getD n ⟨0, 0, 0, 0, 0, 0, 0, false, []⟩)) ⟨S.ms, S.mails.eraseIdx n⟩).1 :: A)) := by
  refine Fun.ex (fun w h => hc_open h) ?_
  intro b hcw
  have hbm := hcw.len.2
  have hbc := hcw.mc
  have hml := h.mails
  obtain ⟨m, hm, hms⟩ := hcw.mailAt hn
  have hmvl := mvs_length b.ms
  have hpos : 0 < (mvs b.ms).length := by omega
  have hag : ((mvs b.ms).drop (((n : Int)).toNat * 9)).take 9 = [.int .i64 m.kind, .int .i64 m.fr, .int .i64 m.to_, .int .i64 m.term, .int .i64 m.index, .int .i64 m.prev, .int .i64 m.commit, .bool m.ok, .slice m.cs.base m.cs.xs.length m.cs.cap] := by rw [Int.toNat_natCast]; exact mvs_nine hm
  have hxl : m.cs.xs.length ≤ 1099511627776 := hcl m.ml (List.mem_of_getElem? hms)
  have hrd : RdC w0 (mrows b.ms :: A) m.cs.base (cvs m.cs.xs) := mrowsRd (List.Mem.head _) (List.mem_of_getElem? hm)
  have hgd : S.mails.getD n ⟨0, 0, 0, 0, 0, 0, 0, false, []⟩ = m.ml := by rw [List.getD_eq_getElem?_getD, hms]; rfl
  rw [hgd]
  refine Fun.enter Try.func16 rfl Try.ntmps16 rfl ?_
  refine WC.seq <| WC.region <| bxc (v := .agg _) (cs := [.int _ _, .int _ _, .int _ _, .int _ _]) rfl rfl fun b1 => sv (vaI rfl) <| WL.nil <| WX.thenN <| WC.seq <| WC.seq <| WC.region <| sv (vmP rfl) <| sv (vpeqF Try.underlying25 rfl rfl) <| WL.nil <| WX.thenN <| ?_
  refine WC.ff rfl ?_
  refine WC.skip <| WX.thenN <| WC.seq <| WC.seq <| WC.region <| sv (vfldpz fl37f0 rfl) <| sv (vldc pl3 rfl) <| WL.nil <| WX.thenN <| WC.block <| WC.seq <| WC.seq <| WC.region <| sv (veq rfl rfl) <| sv (vaB rfl) <| WL.nil <| WX.thenN <| ?_
  refine WC.tt rfl ?_
  refine WC.skip <| WX.thenN <| ?_
  refine WC.tt rfl ?_
  refine WC.seq <| ?_
  refine WC.cutS [(27, .bool (decide (False)))] [(0, .pointer _), (3, .pointer _)] ⟨rfl, rfl, trivial⟩ ?_ fun ρh => ?_
  · -- council.go:131
    refine WC.draws rfl (by kernel_rfl) <| qv (vfldp fl37f2 rfl) <| qv (vldc pl3 rfl) <| qvs (vlt rfl rfl) (fun q1 => ?_) (fun q1 => ?_)
    ·
      exact qv (vmB rfl) <| qng rfl <| qng rfl <| qng rfl <| qng rfl <| qng rfl <| qng rfl <| qng rfl <| qng rfl <| qv (vpkt rfl) <| WQ.nil <| WX.mid () trivial ⟨bT (by first | omega | simp_all | grind), trivial⟩ ⟨rfl, rfl, trivial⟩ (fun _ h => Sb.own (by repeat' (first | with_reducible exact Sb.all | exact Sb.nil | (apply Sb.cons; focus (first | ((repeat (first | with_reducible exact Tk.here | with_reducible apply Tk.there)); done) | ((repeat (first | exact Tk.here | apply Tk.there)); done))) | apply Sb.drop)) h)
    ·
      exact qv (vmB rfl) <| qvg rfl (vfldp fl37f2 rfl) <| qvg rfl (vldc pl3 rfl) <| qvg rfl (vmP rfl) <| qvg rfl (vnil rfl) <| qvg rfl (vfldp fl58f1 rfl) <| qvg rfl (vldc pl50 rfl) <| qvg rfl (vlen Try.underlying50 rfl) <| qvg rfl (vge rfl rfl) <| qv (vpkf rfl) <| WQ.nil <| WX.mid () trivial ⟨bI ⟨fun h => by omega, False.elim⟩, trivial⟩ ⟨rfl, rfl, trivial⟩ (fun _ h => Sb.own (by repeat' (first | with_reducible exact Sb.all | exact Sb.nil | (apply Sb.cons; focus (first | ((repeat (first | with_reducible exact Tk.here | with_reducible apply Tk.there)); done) | ((repeat (first | exact Tk.here | apply Tk.there)); done))) | apply Sb.drop)) h)
  refine WC.ff rfl ?_
  refine WC.skip <| WX.thenN <| WC.seq <| WC.plan (.one [0, 1, 2, 3, 4, 5, 6, 7] 8 (.bar [] 9 (.done []))) rfl (by kernel_rfl) <| WPl.oneE (fun g => by infer_instance) <| dv (fun g => (vmP rfl)) <| dv (fun g => (vnil rfl)) <| dv (fun g => (vfldp fl58f1 rfl)) <| dv (fun g => (vldc pl50 rfl)) <| dv (fun g => (vfldp fl37f2 rfl)) <| dv (fun g => (vldc pl3 rfl)) <| dv (fun g => (vix Try.underlying50 sz54 rfl rfl (by omega) (by omega) reads hpos)) <| dv (fun g => (vlda ag54 sz54 rfl reads hag rfl (by decide))) <| WD.eff rfl <| alz (cs := [.int .i64 0, .int .i64 0, .int .i64 0, .int .i64 0, .int .i64 0, .int .i64 0, .int .i64 0, .bool false, .slice none 0 0]) zt54 (by rfl) fun b11 => WL.nil <| WX.br <| WPl.barC <| WD.eff rfl <| stAp sz54 rfl rfl rfl (by intro v hv; simp only [List.mem_cons, List.not_mem_nil, or_false] at hv; rcases hv with rfl | rfl | rfl | rfl | rfl | rfl | rfl | rfl | rfl <;> rfl) rfl <| WL.nil <| WX.brT <| WPl.finC <| WD.nil <| WX.thenN <| WC.seq <| WC.seq <| WC.region <| sv (vfldpz fl37f0 rfl) <| sv (vldc pl3 rfl) <| sv (vne rfl rfl) <| WL.nil <| WX.thenN <| ?_
  refine WC.tt rfl ?_
  refine WC.plan (.pre [1, 2, 3, 4, 5, 6, 7, 8, 9] (.one [0] 10 (.bar [11, 12] 13 (.done [])))) rfl (by kernel_rfl) <| WPl.preC <| dv (fun g => (vmP rfl)) <| dv (fun g => (vnil rfl)) <| dv (fun g => (vfldp fl58f1 rfl)) <| dv (fun g => (vldc pl50 rfl)) <| dv (fun g => (vfldp fl37f2 rfl)) <| dv (fun g => (vldc pl3 rfl)) <| dv (fun g => (vfldp fl37f2 rfl)) <| dv (fun g => (vldc pl3 rfl)) <| dv (fun g => (vadd rfl rfl (by omega))) <| WD.nil <| WPl.oneX [row b.mb b.mc 9 54 (mvs b.ms)] (by repeat' (first | exact Spl.nil | (apply Spl.cons; focus (first | ((repeat (first | with_reducible exact Tk.here | with_reducible apply Tk.there)); done) | ((repeat (first | exact Tk.here | apply Tk.there)); done))))) (fun g => by infer_instance) ?_
  refine dv (fun g => (vmP rfl)) <| WD.eff rfl <| clx (by repeat' (first | with_reducible exact Sb.all | exact Sb.nil | (apply Sb.cons; focus (first | ((repeat (first | with_reducible exact Tk.here | with_reducible apply Tk.there)); done) | ((repeat (first | exact Tk.here | apply Tk.there)); done))) | apply Sb.drop)) (mails_delete (i := n) (by omega) hbc (by omega)) ct28 rfl fun r18 hr18 => ?_
  refine WL.nil <| WX.br <| WPl.barC <| dv (fun g => (vnil rfl)) <| dv (fun g => (vfldp fl58f1 rfl)) <| WD.eff rfl <| stp (v := .slice _ _ _) pl50 sz50 rfl rfl rfl <| WL.nil <| WX.brT <| WPl.finC <| WD.nil <| WX.thenN <| WC.seq <| WC.seq <| WC.region <| sv (vfldpz fl37f0 rfl) <| sv (vldc pl3 rfl) <| sv (vne rfl rfl) <| WL.nil <| WX.thenN <| ?_
  refine WC.tt rfl ?_
  refine WC.seq <| WC.region <| sv (vfldp fl54f8 rfl) <| sv (vldc pl31 rfl) <| clx (by repeat' (first | with_reducible exact Sb.all | exact Sb.nil | (apply Sb.cons; focus (first | ((repeat (first | with_reducible exact Tk.here | with_reducible apply Tk.there)); done) | ((repeat (first | exact Tk.here | apply Tk.there)); done))) | apply Sb.drop)) (raft_clone (hR := ⟨hrd.mono fun _ h => Sb.own (by repeat' (first | with_reducible exact Sb.all | exact Sb.nil | (apply Sb.cons; focus (first | ((repeat (first | with_reducible exact Tk.here | with_reducible apply Tk.there)); done) | ((repeat (first | exact Tk.here | apply Tk.there)); done))) | apply Sb.drop)) h⟩) hxl) ct29 rfl fun r22 hr22 => ?_
  refine sv (vfldp fl54f8 rfl) <| stp (v := .slice _ _ _) pl31 sz31 rfl rfl rfl <| WL.nil <| WX.thenN <| WC.region <| sv (vmP rfl) <| sv (vfldp fl54f2 rfl) <| sv (vldc pl3 rfl) <| sv (vldac ag54 sz54 rfl rfl (by decide)) <| sv (vbd (ps := [(0, .agg _)]) (cs := [_, _, _, _, _, _, _, _, _]) bt78 zt78 rfl (by rfl)) <| sv (vmki rfl rfl) <| pm (fun _ h => cL_erase (A := row r22.1 r22.2 2 69 (cvs m.cs.xs) :: A) hcw hn hm (Sb.own (by repeat' (first | with_reducible exact Sb.all | exact Sb.nil | (apply Sb.cons; focus (first | ((repeat (first | with_reducible exact Tk.here | with_reducible apply Tk.there)); done) | ((repeat (first | exact Tk.here | apply Tk.there)); done))) | apply Sb.drop)) h)) <| clx (by repeat' (first | with_reducible exact Sb.all | exact Sb.nil | (apply Sb.cons; focus (first | ((repeat (first | with_reducible exact Tk.here | with_reducible apply Tk.there)); done) | ((repeat (first | exact Tk.here | apply Tk.there)); done))) | apply Sb.drop)) (c_step (A := row r22.1 r22.2 2 69 (cvs m.cs.xs) :: A) (f := fun x => takeS x m.ml) (h.lose (mails := S.mails.eraseIdx n) (Nat.le_trans (List.length_eraseIdx_le _ _) hml)) hK (by kernel_rfl) (by kernel_rfl) (fun x hx => ⟨hx.take, (Kin.take x m.ml).more.2.1, take_wr x m.ml⟩) (fun x hx hw => take_dof (m := { m with cs := ⟨r22.1, m.cs.xs, r22.2⟩ }) hx (by show m.cs.xs.length ≤ 9223372036854775807; omega) hr22 (RdC.of_row (List.Mem.head _)))) ct30 rfl fun r28 hr28 => ?_
  exact WL.nil <| WX.thenN <| WC.seq <| WC.region <| sv (vaI rfl) <| WL.nil <| WX.thenN <| WC.ret <| WX.blockR <| WX.thenR <| WX.ret1 rfl (()) (trivial) rfl (fun _ h => Sb.own (by repeat' (first | with_reducible exact Sb.all | exact Sb.nil | (apply Sb.cons; focus (first | ((repeat (first | with_reducible exact Tk.here | with_reducible apply Tk.there)); done) | ((repeat (first | exact Tk.here | apply Tk.there)); done))) | apply Sb.drop)) h)
theorem c_do_twice {w0 : World} {A : List HProp} {p n K : Nat} {S : CS} {i keep : Int} (h : CO K S) (hK : K ≤ 505) (hn : n < S.mails.length) (hcl : ∀ m ∈ S.mails, m.cells.length ≤ 1099511627776) : Fun Try.prog w0 16 [.pointer (some ⟨p, 0, none⟩), .agg #[.int .i64 3, .int .i64 i, .int .i64 (n : Int), .int .i64 keep]] (hc p S :: A) (Ret w0 (fun _ : Unit => True) (fun _ => .int .i64 0) (fun _ => hc p (stepI (S.mails.getD n ⟨0, 0, 0, 0, 0, 0, 0, false, []⟩).to_ (fun x => takeS x (S.mails.getD n ⟨0, 0, 0, 0, 0, 0, 0, false, []⟩)) S).1 :: A)) := by
  refine Fun.ex (fun w h => hc_open h) ?_
  intro b hcw
  have hbm := hcw.len.2
  have hbc := hcw.mc
  have hml := h.mails
  obtain ⟨m, hm, hms⟩ := hcw.mailAt hn
  have hmvl := mvs_length b.ms
  have hpos : 0 < (mvs b.ms).length := by omega
  have hag : ((mvs b.ms).drop (((n : Int)).toNat * 9)).take 9 = [.int .i64 m.kind, .int .i64 m.fr, .int .i64 m.to_, .int .i64 m.term, .int .i64 m.index, .int .i64 m.prev, .int .i64 m.commit, .bool m.ok, .slice m.cs.base m.cs.xs.length m.cs.cap] := by rw [Int.toNat_natCast]; exact mvs_nine hm
  have hxl : m.cs.xs.length ≤ 1099511627776 := hcl m.ml (List.mem_of_getElem? hms)
  have hrd : RdC w0 (mrows b.ms :: A) m.cs.base (cvs m.cs.xs) := mrowsRd (List.Mem.head _) (List.mem_of_getElem? hm)
  have hgd : S.mails.getD n ⟨0, 0, 0, 0, 0, 0, 0, false, []⟩ = m.ml := by rw [List.getD_eq_getElem?_getD, hms]; rfl
  rw [hgd]
  refine Fun.enter Try.func16 rfl Try.ntmps16 rfl ?_
  refine WC.seq <| WC.region <| bxc (v := .agg _) (cs := [.int _ _, .int _ _, .int _ _, .int _ _]) rfl rfl fun b1 => sv (vaI rfl) <| WL.nil <| WX.thenN <| WC.seq <| WC.seq <| WC.region <| sv (vmP rfl) <| sv (vpeqF Try.underlying25 rfl rfl) <| WL.nil <| WX.thenN <| ?_
  refine WC.ff rfl ?_
  refine WC.skip <| WX.thenN <| WC.seq <| WC.seq <| WC.region <| sv (vfldpz fl37f0 rfl) <| sv (vldc pl3 rfl) <| WL.nil <| WX.thenN <| WC.block <| WC.seq <| WC.seq <| WC.region <| sv (veq rfl rfl) <| sv (vaB rfl) <| WL.nil <| WX.thenN <| ?_
  refine WC.ff rfl ?_
  refine WC.seq <| WC.region <| sv (veq rfl rfl) <| sv (vaB rfl) <| WL.nil <| WX.thenN <| ?_
  refine WC.tt rfl ?_
  refine WC.skip <| WX.thenN <| ?_
  refine WC.tt rfl ?_
  refine WC.seq <| ?_
  refine WC.cutS [(27, .bool (decide (False)))] [(0, .pointer _), (3, .pointer _)] ⟨rfl, rfl, trivial⟩ ?_ fun ρh => ?_
  · -- council.go:131
    refine WC.draws rfl (by kernel_rfl) <| qv (vfldp fl37f2 rfl) <| qv (vldc pl3 rfl) <| qvs (vlt rfl rfl) (fun q1 => ?_) (fun q1 => ?_)
    ·
      exact qv (vmB rfl) <| qng rfl <| qng rfl <| qng rfl <| qng rfl <| qng rfl <| qng rfl <| qng rfl <| qng rfl <| qv (vpkt rfl) <| WQ.nil <| WX.mid () trivial ⟨bT (by first | omega | simp_all | grind), trivial⟩ ⟨rfl, rfl, trivial⟩ (fun _ h => Sb.own (by repeat' (first | with_reducible exact Sb.all | exact Sb.nil | (apply Sb.cons; focus (first | ((repeat (first | with_reducible exact Tk.here | with_reducible apply Tk.there)); done) | ((repeat (first | exact Tk.here | apply Tk.there)); done))) | apply Sb.drop)) h)
    ·
      exact qv (vmB rfl) <| qvg rfl (vfldp fl37f2 rfl) <| qvg rfl (vldc pl3 rfl) <| qvg rfl (vmP rfl) <| qvg rfl (vnil rfl) <| qvg rfl (vfldp fl58f1 rfl) <| qvg rfl (vldc pl50 rfl) <| qvg rfl (vlen Try.underlying50 rfl) <| qvg rfl (vge rfl rfl) <| qv (vpkf rfl) <| WQ.nil <| WX.mid () trivial ⟨bI ⟨fun h => by omega, False.elim⟩, trivial⟩ ⟨rfl, rfl, trivial⟩ (fun _ h => Sb.own (by repeat' (first | with_reducible exact Sb.all | exact Sb.nil | (apply Sb.cons; focus (first | ((repeat (first | with_reducible exact Tk.here | with_reducible apply Tk.there)); done) | ((repeat (first | exact Tk.here | apply Tk.there)); done))) | apply Sb.drop)) h)
  refine WC.ff rfl ?_
  refine WC.skip <| WX.thenN <| WC.seq <| WC.plan (.one [0, 1, 2, 3, 4, 5, 6, 7] 8 (.bar [] 9 (.done []))) rfl (by kernel_rfl) <| WPl.oneE (fun g => by infer_instance) <| dv (fun g => (vmP rfl)) <| dv (fun g => (vnil rfl)) <| dv (fun g => (vfldp fl58f1 rfl)) <| dv (fun g => (vldc pl50 rfl)) <| dv (fun g => (vfldp fl37f2 rfl)) <| dv (fun g => (vldc pl3 rfl)) <| dv (fun g => (vix Try.underlying50 sz54 rfl rfl (by omega) (by omega) reads hpos)) <| dv (fun g => (vlda ag54 sz54 rfl reads hag rfl (by decide))) <| WD.eff rfl <| alz (cs := [.int .i64 0, .int .i64 0, .int .i64 0, .int .i64 0, .int .i64 0, .int .i64 0, .int .i64 0, .bool false, .slice none 0 0]) zt54 (by rfl) fun b11 => WL.nil <| WX.br <| WPl.barC <| WD.eff rfl <| stAp sz54 rfl rfl rfl (by intro v hv; simp only [List.mem_cons, List.not_mem_nil, or_false] at hv; rcases hv with rfl | rfl | rfl | rfl | rfl | rfl | rfl | rfl | rfl <;> rfl) rfl <| WL.nil <| WX.brT <| WPl.finC <| WD.nil <| WX.thenN <| WC.seq <| WC.seq <| WC.region <| sv (vfldpz fl37f0 rfl) <| sv (vldc pl3 rfl) <| sv (vne rfl rfl) <| WL.nil <| WX.thenN <| ?_
  refine WC.ff rfl ?_
  refine WC.skip <| WX.thenN <| WC.seq <| WC.seq <| WC.region <| sv (vfldpz fl37f0 rfl) <| sv (vldc pl3 rfl) <| sv (vne rfl rfl) <| WL.nil <| WX.thenN <| ?_
  refine WC.tt rfl ?_
  refine WC.seq <| WC.region <| sv (vfldp fl54f8 rfl) <| sv (vldc pl31 rfl) <| clx (by repeat' (first | with_reducible exact Sb.all | exact Sb.nil | (apply Sb.cons; focus (first | ((repeat (first | with_reducible exact Tk.here | with_reducible apply Tk.there)); done) | ((repeat (first | exact Tk.here | apply Tk.there)); done))) | apply Sb.drop)) (raft_clone (hR := ⟨hrd.mono fun _ h => Sb.own (by repeat' (first | with_reducible exact Sb.all | exact Sb.nil | (apply Sb.cons; focus (first | ((repeat (first | with_reducible exact Tk.here | with_reducible apply Tk.there)); done) | ((repeat (first | exact Tk.here | apply Tk.there)); done))) | apply Sb.drop)) h⟩) hxl) ct29 rfl fun r22 hr22 => ?_
  refine sv (vfldp fl54f8 rfl) <| stp (v := .slice _ _ _) pl31 sz31 rfl rfl rfl <| WL.nil <| WX.thenN <| WC.region <| sv (vmP rfl) <| sv (vfldp fl54f2 rfl) <| sv (vldc pl3 rfl) <| sv (vldac ag54 sz54 rfl rfl (by decide)) <| sv (vbd (ps := [(0, .agg _)]) (cs := [_, _, _, _, _, _, _, _, _]) bt78 zt78 rfl (by rfl)) <| sv (vmki rfl rfl) <| pm (fun _ h => hc_mk (A := row r22.1 r22.2 2 69 (cvs m.cs.xs) :: A) hcw (Sb.own (by repeat' (first | with_reducible exact Sb.all | exact Sb.nil | (apply Sb.cons; focus (first | ((repeat (first | with_reducible exact Tk.here | with_reducible apply Tk.there)); done) | ((repeat (first | exact Tk.here | apply Tk.there)); done))) | apply Sb.drop)) h)) <| clx (by repeat' (first | with_reducible exact Sb.all | exact Sb.nil | (apply Sb.cons; focus (first | ((repeat (first | with_reducible exact Tk.here | with_reducible apply Tk.there)); done) | ((repeat (first | exact Tk.here | apply Tk.there)); done))) | apply Sb.drop)) (c_step (A := row r22.1 r22.2 2 69 (cvs m.cs.xs) :: A) (f := fun x => takeS x m.ml) h hK (by kernel_rfl) (by kernel_rfl) (fun x hx => ⟨hx.take, (Kin.take x m.ml).more.2.1, take_wr x m.ml⟩) (fun x hx hw => take_dof (m := { m with cs := ⟨r22.1, m.cs.xs, r22.2⟩ }) hx (by show m.cs.xs.length ≤ 9223372036854775807; omega) hr22 (RdC.of_row (List.Mem.head _)))) ct30 rfl fun r28 hr28 => ?_
  exact WL.nil <| WX.thenN <| WC.seq <| WC.region <| sv (vaI rfl) <| WL.nil <| WX.thenN <| WC.ret <| WX.blockR <| WX.thenR <| WX.ret1 rfl (()) (trivial) rfl (fun _ h => Sb.own (by repeat' (first | with_reducible exact Sb.all | exact Sb.nil | (apply Sb.cons; focus (first | ((repeat (first | with_reducible exact Tk.here | with_reducible apply Tk.there)); done) | ((repeat (first | exact Tk.here | apply Tk.there)); done))) | apply Sb.drop)) h)
theorem c_do_lose {w0 : World} {A : List HProp} {p n K : Nat} {S : CS} {i keep : Int} (h : CO K S) (hK : K ≤ 505) (hn : n < S.mails.length) (hcl : ∀ m ∈ S.mails, m.cells.length ≤ 1099511627776) : Fun Try.prog w0 16 [.pointer (some ⟨p, 0, none⟩), .agg #[.int .i64 4, .int .i64 i, .int .i64 (n : Int), .int .i64 keep]] (hc p S :: A) (Ret w0 (fun _ : Unit => True) (fun _ => .int .i64 0) (fun _ => hc p ⟨S.ms, S.mails.eraseIdx n⟩ :: A)) := by
  refine Fun.ex (fun w h => hc_open h) ?_
  intro b hcw
  have hbm := hcw.len.2
  have hbc := hcw.mc
  have hml := h.mails
  obtain ⟨m, hm, hms⟩ := hcw.mailAt hn
  have hmvl := mvs_length b.ms
  have hpos : 0 < (mvs b.ms).length := by omega
  have hag : ((mvs b.ms).drop (((n : Int)).toNat * 9)).take 9 = [.int .i64 m.kind, .int .i64 m.fr, .int .i64 m.to_, .int .i64 m.term, .int .i64 m.index, .int .i64 m.prev, .int .i64 m.commit, .bool m.ok, .slice m.cs.base m.cs.xs.length m.cs.cap] := by rw [Int.toNat_natCast]; exact mvs_nine hm
  have hxl : m.cs.xs.length ≤ 1099511627776 := hcl m.ml (List.mem_of_getElem? hms)
  have hrd : RdC w0 (mrows b.ms :: A) m.cs.base (cvs m.cs.xs) := mrowsRd (List.Mem.head _) (List.mem_of_getElem? hm)
  refine Fun.enter Try.func16 rfl Try.ntmps16 rfl ?_
  refine WC.seq <| WC.region <| bxc (v := .agg _) (cs := [.int _ _, .int _ _, .int _ _, .int _ _]) rfl rfl fun b1 => sv (vaI rfl) <| WL.nil <| WX.thenN <| WC.seq <| WC.seq <| WC.region <| sv (vmP rfl) <| sv (vpeqF Try.underlying25 rfl rfl) <| WL.nil <| WX.thenN <| ?_
  refine WC.ff rfl ?_
  refine WC.skip <| WX.thenN <| WC.seq <| WC.seq <| WC.region <| sv (vfldpz fl37f0 rfl) <| sv (vldc pl3 rfl) <| WL.nil <| WX.thenN <| WC.block <| WC.seq <| WC.seq <| WC.region <| sv (veq rfl rfl) <| sv (vaB rfl) <| WL.nil <| WX.thenN <| ?_
  refine WC.ff rfl ?_
  refine WC.seq <| WC.region <| sv (veq rfl rfl) <| sv (vaB rfl) <| WL.nil <| WX.thenN <| ?_
  refine WC.ff rfl ?_
  refine WC.region <| sv (veq rfl rfl) <| sv (vaB rfl) <| WL.nil <| WX.thenN <| ?_
  refine WC.tt rfl ?_
  refine WC.seq <| ?_
  refine WC.cutS [(27, .bool (decide (False)))] [(0, .pointer _), (3, .pointer _)] ⟨rfl, rfl, trivial⟩ ?_ fun ρh => ?_
  · -- council.go:131
    refine WC.draws rfl (by kernel_rfl) <| qv (vfldp fl37f2 rfl) <| qv (vldc pl3 rfl) <| qvs (vlt rfl rfl) (fun q1 => ?_) (fun q1 => ?_)
    ·
      exact qv (vmB rfl) <| qng rfl <| qng rfl <| qng rfl <| qng rfl <| qng rfl <| qng rfl <| qng rfl <| qng rfl <| qv (vpkt rfl) <| WQ.nil <| WX.mid () trivial ⟨bT (by first | omega | simp_all | grind), trivial⟩ ⟨rfl, rfl, trivial⟩ (fun _ h => Sb.own (by repeat' (first | with_reducible exact Sb.all | exact Sb.nil | (apply Sb.cons; focus (first | ((repeat (first | with_reducible exact Tk.here | with_reducible apply Tk.there)); done) | ((repeat (first | exact Tk.here | apply Tk.there)); done))) | apply Sb.drop)) h)
    ·
      exact qv (vmB rfl) <| qvg rfl (vfldp fl37f2 rfl) <| qvg rfl (vldc pl3 rfl) <| qvg rfl (vmP rfl) <| qvg rfl (vnil rfl) <| qvg rfl (vfldp fl58f1 rfl) <| qvg rfl (vldc pl50 rfl) <| qvg rfl (vlen Try.underlying50 rfl) <| qvg rfl (vge rfl rfl) <| qv (vpkf rfl) <| WQ.nil <| WX.mid () trivial ⟨bI ⟨fun h => by omega, False.elim⟩, trivial⟩ ⟨rfl, rfl, trivial⟩ (fun _ h => Sb.own (by repeat' (first | with_reducible exact Sb.all | exact Sb.nil | (apply Sb.cons; focus (first | ((repeat (first | with_reducible exact Tk.here | with_reducible apply Tk.there)); done) | ((repeat (first | exact Tk.here | apply Tk.there)); done))) | apply Sb.drop)) h)
  refine WC.ff rfl ?_
  refine WC.skip <| WX.thenN <| WC.seq <| WC.plan (.one [0, 1, 2, 3, 4, 5, 6, 7] 8 (.bar [] 9 (.done []))) rfl (by kernel_rfl) <| WPl.oneE (fun g => by infer_instance) <| dv (fun g => (vmP rfl)) <| dv (fun g => (vnil rfl)) <| dv (fun g => (vfldp fl58f1 rfl)) <| dv (fun g => (vldc pl50 rfl)) <| dv (fun g => (vfldp fl37f2 rfl)) <| dv (fun g => (vldc pl3 rfl)) <| dv (fun g => (vix Try.underlying50 sz54 rfl rfl (by omega) (by omega) reads hpos)) <| dv (fun g => (vlda ag54 sz54 rfl reads hag rfl (by decide))) <| WD.eff rfl <| alz (cs := [.int .i64 0, .int .i64 0, .int .i64 0, .int .i64 0, .int .i64 0, .int .i64 0, .int .i64 0, .bool false, .slice none 0 0]) zt54 (by rfl) fun b11 => WL.nil <| WX.br <| WPl.barC <| WD.eff rfl <| stAp sz54 rfl rfl rfl (by intro v hv; simp only [List.mem_cons, List.not_mem_nil, or_false] at hv; rcases hv with rfl | rfl | rfl | rfl | rfl | rfl | rfl | rfl | rfl <;> rfl) rfl <| WL.nil <| WX.brT <| WPl.finC <| WD.nil <| WX.thenN <| WC.seq <| WC.seq <| WC.region <| sv (vfldpz fl37f0 rfl) <| sv (vldc pl3 rfl) <| sv (vne rfl rfl) <| WL.nil <| WX.thenN <| ?_
  refine WC.tt rfl ?_
  refine WC.plan (.pre [1, 2, 3, 4, 5, 6, 7, 8, 9] (.one [0] 10 (.bar [11, 12] 13 (.done [])))) rfl (by kernel_rfl) <| WPl.preC <| dv (fun g => (vmP rfl)) <| dv (fun g => (vnil rfl)) <| dv (fun g => (vfldp fl58f1 rfl)) <| dv (fun g => (vldc pl50 rfl)) <| dv (fun g => (vfldp fl37f2 rfl)) <| dv (fun g => (vldc pl3 rfl)) <| dv (fun g => (vfldp fl37f2 rfl)) <| dv (fun g => (vldc pl3 rfl)) <| dv (fun g => (vadd rfl rfl (by omega))) <| WD.nil <| WPl.oneX [row b.mb b.mc 9 54 (mvs b.ms)] (by repeat' (first | exact Spl.nil | (apply Spl.cons; focus (first | ((repeat (first | with_reducible exact Tk.here | with_reducible apply Tk.there)); done) | ((repeat (first | exact Tk.here | apply Tk.there)); done))))) (fun g => by infer_instance) ?_
  refine dv (fun g => (vmP rfl)) <| WD.eff rfl <| clx (by repeat' (first | with_reducible exact Sb.all | exact Sb.nil | (apply Sb.cons; focus (first | ((repeat (first | with_reducible exact Tk.here | with_reducible apply Tk.there)); done) | ((repeat (first | exact Tk.here | apply Tk.there)); done))) | apply Sb.drop)) (mails_delete (i := n) (by omega) hbc (by omega)) ct28 rfl fun r18 hr18 => ?_
  refine WL.nil <| WX.br <| WPl.barC <| dv (fun g => (vnil rfl)) <| dv (fun g => (vfldp fl58f1 rfl)) <| WD.eff rfl <| stp (v := .slice _ _ _) pl50 sz50 rfl rfl rfl <| WL.nil <| WX.brT <| WPl.finC <| WD.nil <| WX.thenN <| WC.seq <| WC.seq <| WC.region <| sv (vfldpz fl37f0 rfl) <| sv (vldc pl3 rfl) <| sv (vne rfl rfl) <| WL.nil <| WX.thenN <| ?_
  refine WC.ff rfl ?_
  exact WC.skip <| WX.thenN <| WC.seq <| WC.region <| sv (vaI rfl) <| WL.nil <| WX.thenN <| WC.ret <| WX.blockR <| WX.thenR <| WX.ret1 rfl (()) (trivial) rfl (fun w h => cL_erase (A := A) hcw hn hm (Sb.own (by repeat' (first | with_reducible exact Sb.all | exact Sb.nil | (apply Sb.cons; focus (first | ((repeat (first | with_reducible exact Tk.here | with_reducible apply Tk.there)); done) | ((repeat (first | exact Tk.here | apply Tk.there)); done))) | apply Sb.drop)) h))
end Go.Proofs.Ytigjompojlhomaa
end
section
set_option linter.unusedVariables false
set_option linter.unusedSimpArgs false
set_option maxRecDepth 4000
namespace Go.Proofs.Ytigjompojlhomaa
open Go.Sl Go.RowKit Go.Raft Go.Journal Go.Pack Go.Council

structure HMI where
  np : Option Addr
  jp : Option Addr
  X : HProp
/-- a manager's disk; what else there is of it -/
def HX (q dk : Nat) (m : Mg) (i : HMI) : Prop := (m.node = none → i.np = none) ∧ (∀ (w0 : World) (st : DSt) (B : List HProp) (w : World), Own w0 (cel q (mcell dk i.np i.jp) 65 :: pdisk dk st :: i.X :: B) w → Own w0 (hman q dk ⟨st, m.node, m.rs⟩ :: B) w) ∧ (m.node ≠ none → i.np.isSome = true)
theorem hman_disk {w0 w : World} {A : List HProp} {q dk : Nat} {m : Mg} (H : Own w0 (hman q dk m :: A) w) : ∃ i : HMI, HX q dk m i ∧ Own w0 (cel q (mcell dk i.np i.jp) 65 :: pdisk dk m.st :: i.X :: A) w := by
  cases hn : m.node with
  | none =>
    obtain ⟨jo, h⟩ := hman_down hn H
    exact ⟨⟨none, jo, emp⟩, ⟨fun _ => rfl, fun w0 st B w h => by rw [hn]; exact hman_mkD (m := ⟨st, none, m.rs⟩) rfl (h.ix [2, 0, 1]).tail, fun h => absurd hn h⟩, (Own.intro_emp h).ix [1, 2, 0]⟩
  | some x =>
    obtain ⟨⟨np, jp⟩, h⟩ := hman_up hn H
    refine ⟨⟨some ⟨np, 0, none⟩, some ⟨jp, 0, none⟩, star (hnode np x) (cel jp (jcells dk lnm m.rs.length false) 120)⟩, ⟨fun h => (by rw [hn] at h; cases h), fun w0 st B w h => ?_, fun _ => rfl⟩, ?_⟩
    · rw [hn]
      exact hman_mkU (m := ⟨st, some x, m.rs⟩) (np := np) (jp := jp) rfl ((h.ix [2, 0, 1]).star.ix [2, 3, 0, 1])
    · exact ((h.ix [2, 3, 0, 1]).intro_star).ix [1, 2, 0]
theorem putM_twice {S : CS} {j : Nat} {m m' : Mg} : putM (putM S j m) j m' = putM S j m' := by unfold putM; dsimp only; rw [List.set_set]
theorem c_do_tick {w0 : World} {A : List HProp} {p j K : Nat} {S : CS} {m : Mg} {n keep : Int} (h : CO K S) (hK : K ≤ 505) (hj : S.ms[j]? = some m) : Fun Try.prog w0 16 [.pointer (some ⟨p, 0, none⟩), .agg #[.int .i64 1, .int .i64 ((j : Int) + 1), .int .i64 n, .int .i64 keep]] (hc p S :: A) (Ret w0 (fun _ : Unit => True) (fun _ => .int .i64 0) (fun _ => hc p (Go.Council.stepC j tickS S).1 :: A)) := by
  refine Fun.ex (fun w h => hc_open h) ?_
  intro b hcw
  have hbl := hcw.len.1
  obtain ⟨e, he, hem⟩ := hcw.at_ hj
  have hjl := lt_of_at he
  have hl5 := h.n.2
  have hpt := nptrs_at he
  have hpl : 0 < (nptrC (b.l.map ME.q)).length := by rw [nptrC_length, List.length_map]; omega
  refine Fun.enter Try.func16 rfl Try.ntmps16 rfl ?_
  refine WC.seq <| WC.region <| bxc (v := .agg _) (cs := [.int _ _, .int _ _, .int _ _, .int _ _]) rfl rfl fun b1 => sv (vaI rfl) <| WL.nil <| WX.thenN <| WC.seq <| WC.seq <| WC.region <| sv (vmP rfl) <| sv (vpeqF Try.underlying25 rfl rfl) <| WL.nil <| WX.thenN <| ?_
  refine WC.ff rfl ?_
  refine WC.skip <| WX.thenN <| WC.seq <| WC.seq <| WC.region <| sv (vfldpz fl37f0 rfl) <| sv (vldc pl3 rfl) <| WL.nil <| WX.thenN <| WC.block <| WC.seq <| WC.seq <| WC.region <| sv (veq rfl rfl) <| sv (vaB rfl) <| WL.nil <| WX.thenN <| ?_
  refine WC.ff rfl ?_
  refine WC.seq <| WC.region <| sv (veq rfl rfl) <| sv (vaB rfl) <| WL.nil <| WX.thenN <| ?_
  refine WC.ff rfl ?_
  refine WC.region <| sv (veq rfl rfl) <| sv (vaB rfl) <| WL.nil <| WX.thenN <| ?_
  refine WC.ff rfl ?_
  refine WC.skip <| WX.blockN <| WX.thenN <| WC.seq <| ?_
  refine WC.cutS [(78, .bool (decide (False)))] [(0, .pointer _), (3, .pointer _)] ⟨rfl, rfl, trivial⟩ ?_ fun ρh => ?_
  · -- council.go:144
    refine WC.draws rfl (by kernel_rfl) <| qv (vfldp fl37f1 rfl) <| qv (vldc pl3 rfl) <| qvs (vlt rfl rfl) (fun q1 => ?_) (fun q1 => ?_)
    ·
      exact qv (vmB rfl) <| qng rfl <| qng rfl <| qng rfl <| qng rfl <| qng rfl <| qng rfl <| qng rfl <| qng rfl <| qv (vpkt rfl) <| WQ.nil <| WX.mid () trivial ⟨bT (by first | omega | simp_all | grind), trivial⟩ ⟨rfl, rfl, trivial⟩ (fun _ h => Sb.own (by repeat' (first | with_reducible exact Sb.all | exact Sb.nil | (apply Sb.cons; focus (first | ((repeat (first | with_reducible exact Tk.here | with_reducible apply Tk.there)); done) | ((repeat (first | exact Tk.here | apply Tk.there)); done))) | apply Sb.drop)) h)
    ·
      exact qv (vmB rfl) <| qvg rfl (vfldp fl37f1 rfl) <| qvg rfl (vldc pl3 rfl) <| qvg rfl (vmP rfl) <| qvg rfl (vnil rfl) <| qvg rfl (vfldpz fl58f0 rfl) <| qvg rfl (vldc pl56 rfl) <| qvg rfl (vlen Try.underlying56 rfl) <| qvg rfl (vgt rfl rfl) <| qv (vpkf rfl) <| WQ.nil <| WX.mid () trivial ⟨bI ⟨fun h => by omega, False.elim⟩, trivial⟩ ⟨rfl, rfl, trivial⟩ (fun _ h => Sb.own (by repeat' (first | with_reducible exact Sb.all | exact Sb.nil | (apply Sb.cons; focus (first | ((repeat (first | with_reducible exact Tk.here | with_reducible apply Tk.there)); done) | ((repeat (first | exact Tk.here | apply Tk.there)); done))) | apply Sb.drop)) h)
  refine WC.ff rfl ?_
  refine WC.skip <| WX.thenN <| WC.seq <| WC.draws rfl (by kernel_rfl) <| qv (vmP rfl) <| qv (vnil rfl) <| qv (vfldpz fl58f0 rfl) <| qv (vldc pl56 rfl) <| qv (vfldp fl37f1 rfl) <| qv (vldc pl3 rfl) <| qv (vsub rfl rfl (by omega)) <| qv (vix1 Try.underlying56 sz59 rfl rfl (by omega) (by omega) reads hpl) <| qv (vldr pl59 rfl hpt) <| qv (vaP rfl) <| WQ.nil <| WX.thenN <| WC.seq <| WC.seq <| WC.region <| sv (vfldpz fl37f0 rfl) <| sv (vldc pl3 rfl) <| WL.nil <| WX.thenN <| WC.block <| WC.seq <| WC.region <| sv (veq rfl rfl) <| sv (vaB rfl) <| WL.nil <| WX.thenN <| ?_
  refine WC.tt rfl ?_
  refine WC.region <| sv (vmP rfl) <| sv (vfldp fl37f1 rfl) <| sv (vldc pl3 rfl) <| sv (vbd (ps := []) (cs := []) bt80 zt80 rfl (by rfl)) <| sv (vmki rfl rfl) <| pm (fun _ h => hc_mk (A := A) hcw (Sb.own (by repeat' (first | with_reducible exact Sb.all | exact Sb.nil | (apply Sb.cons; focus (first | ((repeat (first | with_reducible exact Tk.here | with_reducible apply Tk.there)); done) | ((repeat (first | exact Tk.here | apply Tk.there)); done))) | apply Sb.drop)) h)) <| clx (by repeat' (first | with_reducible exact Sb.all | exact Sb.nil | (apply Sb.cons; focus (first | ((repeat (first | with_reducible exact Tk.here | with_reducible apply Tk.there)); done) | ((repeat (first | exact Tk.here | apply Tk.there)); done))) | apply Sb.drop)) (c_step (A := A) (f := tickS) h hK (by kernel_rfl) (by kernel_rfl) (fun x hx => ⟨hx.tick, (tick_id x).2.1, tick_wr x⟩) (fun x hx hw => tick_dof hx hw)) ct30 rfl fun r41 hr41 => ?_
  exact WL.nil <| WX.blockN <| WX.thenN <| WC.seq <| WC.region <| sv (vaI rfl) <| WL.nil <| WX.thenN <| WC.ret <| WX.ret1 rfl (()) (trivial) rfl (fun w h => by rw [stepI, if_pos (by omega), show ((j : Int) + 1 - 1).toNat = j by omega] at h; exact h)
theorem c_do_arm {w0 : World} {A : List HProp} {p j K : Nat} {S : CS} {m : Mg} {n keep : Int} (h : CO K S) (hK : K ≤ 505) (hj : S.ms[j]? = some m) (hn : n ≤ 9223372036854775807) : Fun Try.prog w0 16 [.pointer (some ⟨p, 0, none⟩), .agg #[.int .i64 5, .int .i64 ((j : Int) + 1), .int .i64 n, .int .i64 keep]] (hc p S :: A) (Ret w0 (fun _ : Unit => True) (fun _ => .int .i64 0) (fun _ => hc p (putM S j ⟨{ m.st with fuse := max n 0, keep := keep }, m.node, m.rs⟩) :: A)) := by
  refine Fun.ex (fun w h => hc_open h) ?_
  intro b hcw
  have hbl := hcw.len.1
  obtain ⟨e, he, hem⟩ := hcw.at_ hj
  have hjl := lt_of_at he
  have hl5 := h.n.2
  have hpt := nptrs_at he
  have hpl : 0 < (nptrC (b.l.map ME.q)).length := by rw [nptrC_length, List.length_map]; omega
  refine Fun.ex (fun w h => hman_disk (cL_out he h)) ?_
  rw [hem]
  rintro ⟨np, jp, X⟩ ⟨hX1, hX2, hX3⟩
  dsimp only at hX1 hX2 hX3 ⊢
  refine Fun.enter Try.func16 rfl Try.ntmps16 rfl ?_
  refine WC.seq <| WC.region <| bxc (v := .agg _) (cs := [.int _ _, .int _ _, .int _ _, .int _ _]) rfl rfl fun b1 => sv (vaI rfl) <| WL.nil <| WX.thenN <| WC.seq <| WC.seq <| WC.region <| sv (vmP rfl) <| sv (vpeqF Try.underlying25 rfl rfl) <| WL.nil <| WX.thenN <| ?_
  refine WC.ff rfl ?_
  refine WC.skip <| WX.thenN <| WC.seq <| WC.seq <| WC.region <| sv (vfldpz fl37f0 rfl) <| sv (vldc pl3 rfl) <| WL.nil <| WX.thenN <| WC.block <| WC.seq <| WC.seq <| WC.region <| sv (veq rfl rfl) <| sv (vaB rfl) <| WL.nil <| WX.thenN <| ?_
  refine WC.ff rfl ?_
  refine WC.seq <| WC.region <| sv (veq rfl rfl) <| sv (vaB rfl) <| WL.nil <| WX.thenN <| ?_
  refine WC.ff rfl ?_
  refine WC.region <| sv (veq rfl rfl) <| sv (vaB rfl) <| WL.nil <| WX.thenN <| ?_
  refine WC.ff rfl ?_
  refine WC.skip <| WX.blockN <| WX.thenN <| WC.seq <| ?_
  refine WC.cutS [(78, .bool (decide (False)))] [(0, .pointer _), (3, .pointer _)] ⟨rfl, rfl, trivial⟩ ?_ fun ρh => ?_
  · -- council.go:144
    refine WC.draws rfl (by kernel_rfl) <| qv (vfldp fl37f1 rfl) <| qv (vldc pl3 rfl) <| qvs (vlt rfl rfl) (fun q1 => ?_) (fun q1 => ?_)
    ·
      exact qv (vmB rfl) <| qng rfl <| qng rfl <| qng rfl <| qng rfl <| qng rfl <| qng rfl <| qng rfl <| qng rfl <| qv (vpkt rfl) <| WQ.nil <| WX.mid () trivial ⟨bT (by first | omega | simp_all | grind), trivial⟩ ⟨rfl, rfl, trivial⟩ (fun _ h => Sb.own (by repeat' (first | with_reducible exact Sb.all | exact Sb.nil | (apply Sb.cons; focus (first | ((repeat (first | with_reducible exact Tk.here | with_reducible apply Tk.there)); done) | ((repeat (first | exact Tk.here | apply Tk.there)); done))) | apply Sb.drop)) h)
    ·
      exact qv (vmB rfl) <| qvg rfl (vfldp fl37f1 rfl) <| qvg rfl (vldc pl3 rfl) <| qvg rfl (vmP rfl) <| qvg rfl (vnil rfl) <| qvg rfl (vfldpz fl58f0 rfl) <| qvg rfl (vldc pl56 rfl) <| qvg rfl (vlen Try.underlying56 rfl) <| qvg rfl (vgt rfl rfl) <| qv (vpkf rfl) <| WQ.nil <| WX.mid () trivial ⟨bI ⟨fun h => by omega, False.elim⟩, trivial⟩ ⟨rfl, rfl, trivial⟩ (fun _ h => Sb.own (by repeat' (first | with_reducible exact Sb.all | exact Sb.nil | (apply Sb.cons; focus (first | ((repeat (first | with_reducible exact Tk.here | with_reducible apply Tk.there)); done) | ((repeat (first | exact Tk.here | apply Tk.there)); done))) | apply Sb.drop)) h)
  refine WC.ff rfl ?_
  refine WC.skip <| WX.thenN <| WC.seq <| WC.draws rfl (by kernel_rfl) <| qv (vmP rfl) <| qv (vnil rfl) <| qv (vfldpz fl58f0 rfl) <| qv (vldc pl56 rfl) <| qv (vfldp fl37f1 rfl) <| qv (vldc pl3 rfl) <| qv (vsub rfl rfl (by omega)) <| qv (vix1 Try.underlying56 sz59 rfl rfl (by omega) (by omega) reads hpl) <| qv (vldr pl59 rfl hpt) <| qv (vaP rfl) <| WQ.nil <| WX.thenN <| WC.seq <| WC.seq <| WC.region <| sv (vfldpz fl37f0 rfl) <| sv (vldc pl3 rfl) <| WL.nil <| WX.thenN <| WC.block <| WC.seq <| WC.region <| sv (veq rfl rfl) <| sv (vaB rfl) <| WL.nil <| WX.thenN <| ?_
  refine WC.ff rfl ?_
  refine WC.seq <| WC.region <| sv (veq rfl rfl) <| sv (vaB rfl) <| WL.nil <| WX.thenN <| ?_
  refine WC.tt rfl ?_
  refine WC.plan (.bar [0, 1, 2, 3, 4, 5, 6, 7] 8 (.done [])) rfl (by kernel_rfl) <| WPl.barC <| dv (fun g => (vmP rfl)) <| dv (fun g => (vnil rfl)) <| dv (fun g => (vfldpz fl65f0 rfl)) <| dv (fun g => (vldc pl60 rfl)) <| dv (fun g => (vfldp fl37f2 rfl)) <| dv (fun g => (vldc pl3 rfl)) <| dv (fun g => (vfldp fl37f3 rfl)) <| dv (fun g => (vldc pl3 rfl)) <| WD.eff rfl <| clx (by repeat' (first | with_reducible exact Sb.all | exact Sb.nil | (apply Sb.cons; focus (first | ((repeat (first | with_reducible exact Tk.here | with_reducible apply Tk.there)); done) | ((repeat (first | exact Tk.here | apply Tk.there)); done))) | apply Sb.drop)) (disk_arm hn) ct31 rfl fun r45 hr45 => ?_
  exact WL.nil <| WX.brT <| WPl.finC <| WD.nil <| WX.blockN <| WX.thenN <| WC.seq <| WC.region <| sv (vaI rfl) <| WL.nil <| WX.thenN <| WC.ret <| WX.ret1 rfl (()) (trivial) rfl (fun w h => hc_mk (hcw.set (m := ⟨{ m.st with fuse := max n 0, keep := keep }, m.node, m.rs⟩) he) (cL_in he (hX2 w0 _ (cL1 p j b A) w (Sb.own (by repeat' (first | with_reducible exact Sb.all | exact Sb.nil | (apply Sb.cons; focus (first | ((repeat (first | with_reducible exact Tk.here | with_reducible apply Tk.there)); done) | ((repeat (first | exact Tk.here | apply Tk.there)); done))) | apply Sb.drop)) h))))
theorem c_do_off {w0 : World} {A : List HProp} {p j K : Nat} {S : CS} {m : Mg} {n keep : Int} (h : CO K S) (hK : K ≤ 505) (hj : S.ms[j]? = some m) : Fun Try.prog w0 16 [.pointer (some ⟨p, 0, none⟩), .agg #[.int .i64 6, .int .i64 ((j : Int) + 1), .int .i64 n, .int .i64 keep]] (hc p S :: A) (Ret w0 (fun _ : Unit => True) (fun _ => .int .i64 0) (fun _ => hc p (putM S j ⟨offS keep m.st, none, m.rs⟩) :: A)) := by
  refine Fun.ex (fun w h => hc_open h) ?_
  intro b hcw
  have hbl := hcw.len.1
  obtain ⟨e, he, hem⟩ := hcw.at_ hj
  have hjl := lt_of_at he
  have hl5 := h.n.2
  have hpt := nptrs_at he
  have hpl : 0 < (nptrC (b.l.map ME.q)).length := by rw [nptrC_length, List.length_map]; omega
  refine Fun.ex (fun w h => hman_disk (cL_out he h)) ?_
  rw [hem]
  rintro ⟨np, jp, X⟩ ⟨hX1, hX2, hX3⟩
  dsimp only at hX1 hX2 hX3 ⊢
  refine Fun.enter Try.func16 rfl Try.ntmps16 rfl ?_
  refine WC.seq <| WC.region <| bxc (v := .agg _) (cs := [.int _ _, .int _ _, .int _ _, .int _ _]) rfl rfl fun b1 => sv (vaI rfl) <| WL.nil <| WX.thenN <| WC.seq <| WC.seq <| WC.region <| sv (vmP rfl) <| sv (vpeqF Try.underlying25 rfl rfl) <| WL.nil <| WX.thenN <| ?_
  refine WC.ff rfl ?_
  refine WC.skip <| WX.thenN <| WC.seq <| WC.seq <| WC.region <| sv (vfldpz fl37f0 rfl) <| sv (vldc pl3 rfl) <| WL.nil <| WX.thenN <| WC.block <| WC.seq <| WC.seq <| WC.region <| sv (veq rfl rfl) <| sv (vaB rfl) <| WL.nil <| WX.thenN <| ?_
  refine WC.ff rfl ?_
  refine WC.seq <| WC.region <| sv (veq rfl rfl) <| sv (vaB rfl) <| WL.nil <| WX.thenN <| ?_
  refine WC.ff rfl ?_
  refine WC.region <| sv (veq rfl rfl) <| sv (vaB rfl) <| WL.nil <| WX.thenN <| ?_
  refine WC.ff rfl ?_
  refine WC.skip <| WX.blockN <| WX.thenN <| WC.seq <| ?_
  refine WC.cutS [(78, .bool (decide (False)))] [(0, .pointer _), (3, .pointer _)] ⟨rfl, rfl, trivial⟩ ?_ fun ρh => ?_
  · -- council.go:144
    refine WC.draws rfl (by kernel_rfl) <| qv (vfldp fl37f1 rfl) <| qv (vldc pl3 rfl) <| qvs (vlt rfl rfl) (fun q1 => ?_) (fun q1 => ?_)
    ·
      exact qv (vmB rfl) <| qng rfl <| qng rfl <| qng rfl <| qng rfl <| qng rfl <| qng rfl <| qng rfl <| qng rfl <| qv (vpkt rfl) <| WQ.nil <| WX.mid () trivial ⟨bT (by first | omega | simp_all | grind), trivial⟩ ⟨rfl, rfl, trivial⟩ (fun _ h => Sb.own (by repeat' (first | with_reducible exact Sb.all | exact Sb.nil | (apply Sb.cons; focus (first | ((repeat (first | with_reducible exact Tk.here | with_reducible apply Tk.there)); done) | ((repeat (first | exact Tk.here | apply Tk.there)); done))) | apply Sb.drop)) h)
    ·
      exact qv (vmB rfl) <| qvg rfl (vfldp fl37f1 rfl) <| qvg rfl (vldc pl3 rfl) <| qvg rfl (vmP rfl) <| qvg rfl (vnil rfl) <| qvg rfl (vfldpz fl58f0 rfl) <| qvg rfl (vldc pl56 rfl) <| qvg rfl (vlen Try.underlying56 rfl) <| qvg rfl (vgt rfl rfl) <| qv (vpkf rfl) <| WQ.nil <| WX.mid () trivial ⟨bI ⟨fun h => by omega, False.elim⟩, trivial⟩ ⟨rfl, rfl, trivial⟩ (fun _ h => Sb.own (by repeat' (first | with_reducible exact Sb.all | exact Sb.nil | (apply Sb.cons; focus (first | ((repeat (first | with_reducible exact Tk.here | with_reducible apply Tk.there)); done) | ((repeat (first | exact Tk.here | apply Tk.there)); done))) | apply Sb.drop)) h)
  refine WC.ff rfl ?_
  refine WC.skip <| WX.thenN <| WC.seq <| WC.draws rfl (by kernel_rfl) <| qv (vmP rfl) <| qv (vnil rfl) <| qv (vfldpz fl58f0 rfl) <| qv (vldc pl56 rfl) <| qv (vfldp fl37f1 rfl) <| qv (vldc pl3 rfl) <| qv (vsub rfl rfl (by omega)) <| qv (vix1 Try.underlying56 sz59 rfl rfl (by omega) (by omega) reads hpl) <| qv (vldr pl59 rfl hpt) <| qv (vaP rfl) <| WQ.nil <| WX.thenN <| WC.seq <| WC.seq <| WC.region <| sv (vfldpz fl37f0 rfl) <| sv (vldc pl3 rfl) <| WL.nil <| WX.thenN <| WC.block <| WC.seq <| WC.region <| sv (veq rfl rfl) <| sv (vaB rfl) <| WL.nil <| WX.thenN <| ?_
  refine WC.ff rfl ?_
  refine WC.seq <| WC.region <| sv (veq rfl rfl) <| sv (vaB rfl) <| WL.nil <| WX.thenN <| ?_
  refine WC.ff rfl ?_
  refine WC.seq <| WC.region <| sv (veq rfl rfl) <| sv (vaB rfl) <| WL.nil <| WX.thenN <| ?_
  refine WC.tt rfl ?_
  refine WC.seq <| WC.plan (.bar [0, 1, 2, 3, 4, 5] 6 (.done [])) rfl (by kernel_rfl) <| WPl.barC <| dv (fun g => (vmP rfl)) <| dv (fun g => (vnil rfl)) <| dv (fun g => (vfldpz fl65f0 rfl)) <| dv (fun g => (vldc pl60 rfl)) <| dv (fun g => (vfldp fl37f3 rfl)) <| dv (fun g => (vldc pl3 rfl)) <| WD.eff rfl <| clx (by repeat' (first | with_reducible exact Sb.all | exact Sb.nil | (apply Sb.cons; focus (first | ((repeat (first | with_reducible exact Tk.here | with_reducible apply Tk.there)); done) | ((repeat (first | exact Tk.here | apply Tk.there)); done))) | apply Sb.drop)) (disk_off_at) ct32 rfl fun r48 hr48 => ?_
  exact WL.nil <| WX.brT <| WPl.finC <| WD.nil <| WX.thenN <| WC.region <| sv (vmP rfl) <| sv (vnil rfl) <| sv (vfldp fl65f1 rfl) <| stp (v := .pointer _) pl62 sz62 rfl rfl rfl <| WL.nil <| WX.blockN <| WX.thenN <| WC.seq <| WC.region <| sv (vaI rfl) <| WL.nil <| WX.thenN <| WC.ret <| WX.ret1 rfl (()) (trivial) rfl (fun w h => hc_mk (hcw.set (m := ⟨offS keep m.st, none, m.rs⟩) he) (cL_in he (hman_mkD (A := cL1 p j b A) (m := ⟨offS keep m.st, none, m.rs⟩) (jo := jp) rfl (Sb.own (by repeat' (first | with_reducible exact Sb.all | exact Sb.nil | (apply Sb.cons; focus (first | ((repeat (first | with_reducible exact Tk.here | with_reducible apply Tk.there)); done) | ((repeat (first | exact Tk.here | apply Tk.there)); done))) | apply Sb.drop)) h))))
theorem c_do_other {w0 : World} {A : List HProp} {p j K : Nat} {S : CS} {m : Mg} {n keep k : Int} (h : CO K S) (hK : K ≤ 505) (hj : S.ms[j]? = some m) (hk : k < 1 ∨ 7 < k) : Fun Try.prog w0 16 [.pointer (some ⟨p, 0, none⟩), .agg #[.int .i64 k, .int .i64 ((j : Int) + 1), .int .i64 n, .int .i64 keep]] (hc p S :: A) (Ret w0 (fun _ : Unit => True) (fun _ => .int .i64 1) (fun _ => hc p S :: A)) := by
  refine Fun.ex (fun w h => hc_open h) ?_
  intro b hcw
  have hbl := hcw.len.1
  obtain ⟨e, he, hem⟩ := hcw.at_ hj
  have hjl := lt_of_at he
  have hl5 := h.n.2
  have hpt := nptrs_at he
  have hpl : 0 < (nptrC (b.l.map ME.q)).length := by rw [nptrC_length, List.length_map]; omega
  refine Fun.enter Try.func16 rfl Try.ntmps16 rfl ?_
  refine WC.seq <| WC.region <| bxc (v := .agg _) (cs := [.int _ _, .int _ _, .int _ _, .int _ _]) rfl rfl fun b1 => sv (vaI rfl) <| WL.nil <| WX.thenN <| WC.seq <| WC.seq <| WC.region <| sv (vmP rfl) <| sv (vpeqF Try.underlying25 rfl rfl) <| WL.nil <| WX.thenN <| ?_
  refine WC.ff rfl ?_
  refine WC.skip <| WX.thenN <| WC.seq <| WC.seq <| WC.region <| sv (vfldpz fl37f0 rfl) <| sv (vldc pl3 rfl) <| WL.nil <| WX.thenN <| WC.block <| ?_
  refine WC.cutvS (ι := Unit) (fun i => [(11, .bool false)]) [(0, .pointer _), (3, .pointer _)] (fun i => True) ⟨rfl, rfl, trivial⟩ ?_ ?_
  · -- up to the join
    refine WC.seq <| WC.region <| sv (veq rfl rfl) <| sv (vaB rfl) <| WL.nil <| WX.thenN <| ?_
    refine WC.ite rfl (fun h2 => ?_) (fun h2 => ?_)
    · -- then
      exact WC.skip <| WX.mid (()) (trivial) ⟨(bF (by omega)).symm, trivial⟩ ⟨rfl, rfl, trivial⟩ (fun _ h => Sb.own (by repeat' (first | with_reducible exact Sb.all | exact Sb.nil | (apply Sb.cons; focus (first | ((repeat (first | with_reducible exact Tk.here | with_reducible apply Tk.there)); done) | ((repeat (first | exact Tk.here | apply Tk.there)); done))) | apply Sb.drop)) h)
    · -- else
      refine WC.seq <| WC.region <| sv (veq rfl rfl) <| sv (vaB rfl) <| WL.nil <| WX.thenN <| ?_
      refine WC.ite rfl (fun h3 => ?_) (fun h3 => ?_)
      · -- then
        exact WC.skip <| WX.mid (()) (trivial) ⟨(bF (by omega)).symm, trivial⟩ ⟨rfl, rfl, trivial⟩ (fun _ h => Sb.own (by repeat' (first | with_reducible exact Sb.all | exact Sb.nil | (apply Sb.cons; focus (first | ((repeat (first | with_reducible exact Tk.here | with_reducible apply Tk.there)); done) | ((repeat (first | exact Tk.here | apply Tk.there)); done))) | apply Sb.drop)) h)
      · -- else
        exact WC.region <| sv (veq rfl rfl) <| sv (vaB rfl) <| WL.nil <| WX.mid (()) (trivial) ⟨(bF (by omega)).symm, trivial⟩ ⟨rfl, rfl, trivial⟩ (fun _ h => Sb.own (by repeat' (first | with_reducible exact Sb.all | exact Sb.nil | (apply Sb.cons; focus (first | ((repeat (first | with_reducible exact Tk.here | with_reducible apply Tk.there)); done) | ((repeat (first | exact Tk.here | apply Tk.there)); done))) | apply Sb.drop)) h)
  · -- behind the join
    intro i hi ρh
    refine WC.ff rfl ?_
    refine WC.skip <| WX.blockN <| WX.thenN <| WC.seq <| ?_
    refine WC.cutS [(78, .bool (decide (False)))] [(0, .pointer _), (3, .pointer _)] ⟨rfl, rfl, trivial⟩ ?_ fun ρh => ?_
    · -- council.go:144
      refine WC.draws rfl (by kernel_rfl) <| qv (vfldp fl37f1 rfl) <| qv (vldc pl3 rfl) <| qvs (vlt rfl rfl) (fun q1 => ?_) (fun q1 => ?_)
      ·
        exact qv (vmB rfl) <| qng rfl <| qng rfl <| qng rfl <| qng rfl <| qng rfl <| qng rfl <| qng rfl <| qng rfl <| qv (vpkt rfl) <| WQ.nil <| WX.mid () trivial ⟨bT (by first | omega | simp_all | grind), trivial⟩ ⟨rfl, rfl, trivial⟩ (fun _ h => Sb.own (by repeat' (first | with_reducible exact Sb.all | exact Sb.nil | (apply Sb.cons; focus (first | ((repeat (first | with_reducible exact Tk.here | with_reducible apply Tk.there)); done) | ((repeat (first | exact Tk.here | apply Tk.there)); done))) | apply Sb.drop)) h)
      ·
        exact qv (vmB rfl) <| qvg rfl (vfldp fl37f1 rfl) <| qvg rfl (vldc pl3 rfl) <| qvg rfl (vmP rfl) <| qvg rfl (vnil rfl) <| qvg rfl (vfldpz fl58f0 rfl) <| qvg rfl (vldc pl56 rfl) <| qvg rfl (vlen Try.underlying56 rfl) <| qvg rfl (vgt rfl rfl) <| qv (vpkf rfl) <| WQ.nil <| WX.mid () trivial ⟨bI ⟨fun h => by omega, False.elim⟩, trivial⟩ ⟨rfl, rfl, trivial⟩ (fun _ h => Sb.own (by repeat' (first | with_reducible exact Sb.all | exact Sb.nil | (apply Sb.cons; focus (first | ((repeat (first | with_reducible exact Tk.here | with_reducible apply Tk.there)); done) | ((repeat (first | exact Tk.here | apply Tk.there)); done))) | apply Sb.drop)) h)
    refine WC.ff rfl ?_
    refine WC.skip <| WX.thenN <| WC.seq <| WC.draws rfl (by kernel_rfl) <| qv (vmP rfl) <| qv (vnil rfl) <| qv (vfldpz fl58f0 rfl) <| qv (vldc pl56 rfl) <| qv (vfldp fl37f1 rfl) <| qv (vldc pl3 rfl) <| qv (vsub rfl rfl (by omega)) <| qv (vix1 Try.underlying56 sz59 rfl rfl (by omega) (by omega) reads hpl) <| qv (vldr pl59 rfl hpt) <| qv (vaP rfl) <| WQ.nil <| WX.thenN <| WC.seq <| WC.seq <| WC.region <| sv (vfldpz fl37f0 rfl) <| sv (vldc pl3 rfl) <| WL.nil <| WX.thenN <| WC.block <| WC.seq <| WC.region <| sv (veq rfl rfl) <| sv (vaB rfl) <| WL.nil <| WX.thenN <| ?_
    refine WC.ite rfl (fun h6 => ?_) (fun h6 => ?_)
    · -- then
      exact absurd h6 (by omega)
    · -- else
      refine WC.seq <| WC.region <| sv (veq rfl rfl) <| sv (vaB rfl) <| WL.nil <| WX.thenN <| ?_
      refine WC.ite rfl (fun h7 => ?_) (fun h7 => ?_)
      · -- then
        exact absurd h7 (by omega)
      · -- else
        refine WC.seq <| WC.region <| sv (veq rfl rfl) <| sv (vaB rfl) <| WL.nil <| WX.thenN <| ?_
        refine WC.ite rfl (fun h8 => ?_) (fun h8 => ?_)
        · -- then
          exact absurd h8 (by omega)
        · -- else
          refine WC.seq <| WC.region <| sv (veq rfl rfl) <| sv (vaB rfl) <| WL.nil <| WX.thenN <| ?_
          refine WC.ite rfl (fun h9 => ?_) (fun h9 => ?_)
          · -- then
            exact absurd h9 (by omega)
          · -- else
            exact WC.seq <| WC.region <| sv (vaI rfl) <| WL.nil <| WX.thenN <| WC.ret <| WX.blockR <| WX.thenR <| WX.ret1 rfl (()) (trivial) rfl (fun w h => hc_mk hcw (Sb.own (by repeat' (first | with_reducible exact Sb.all | exact Sb.nil | (apply Sb.cons; focus (first | ((repeat (first | with_reducible exact Tk.here | with_reducible apply Tk.there)); done) | ((repeat (first | exact Tk.here | apply Tk.there)); done))) | apply Sb.drop)) h))
theorem c_do_on_up {w0 : World} {A : List HProp} {p j K : Nat} {S : CS} {m : Mg} {n keep : Int} (h : CO K S) (hK : K ≤ 505) (hj : S.ms[j]? = some m) {x : Rn} (hx : m.node = some x) : Fun Try.prog w0 16 [.pointer (some ⟨p, 0, none⟩), .agg #[.int .i64 7, .int .i64 ((j : Int) + 1), .int .i64 n, .int .i64 keep]] (hc p S :: A) (Ret w0 (fun _ : Unit => True) (fun _ => .int .i64 0) (fun _ => hc p S :: A)) := by
  refine Fun.ex (fun w h => hc_open h) ?_
  intro b hcw
  have hbl := hcw.len.1
  obtain ⟨e, he, hem⟩ := hcw.at_ hj
  have hjl := lt_of_at he
  have hl5 := h.n.2
  have hpt := nptrs_at he
  have hpl : 0 < (nptrC (b.l.map ME.q)).length := by rw [nptrC_length, List.length_map]; omega
  refine Fun.ex (fun w h => hman_disk (cL_out he h)) ?_
  rw [hem]
  rintro ⟨np, jp, X⟩ ⟨hX1, hX2, hX3⟩
  dsimp only at hX1 hX2 hX3 ⊢
  obtain ⟨np, rfl⟩ := Option.isSome_iff_exists.1 (hX3 (by rw [hx]; exact fun e => by cases e))
  refine Fun.enter Try.func16 rfl Try.ntmps16 rfl ?_
  refine WC.seq <| WC.region <| bxc (v := .agg _) (cs := [.int _ _, .int _ _, .int _ _, .int _ _]) rfl rfl fun b1 => sv (vaI rfl) <| WL.nil <| WX.thenN <| WC.seq <| WC.seq <| WC.region <| sv (vmP rfl) <| sv (vpeqF Try.underlying25 rfl rfl) <| WL.nil <| WX.thenN <| ?_
  refine WC.ff rfl ?_
  refine WC.skip <| WX.thenN <| WC.seq <| WC.seq <| WC.region <| sv (vfldpz fl37f0 rfl) <| sv (vldc pl3 rfl) <| WL.nil <| WX.thenN <| WC.block <| WC.seq <| WC.seq <| WC.region <| sv (veq rfl rfl) <| sv (vaB rfl) <| WL.nil <| WX.thenN <| ?_
  refine WC.ff rfl ?_
  refine WC.seq <| WC.region <| sv (veq rfl rfl) <| sv (vaB rfl) <| WL.nil <| WX.thenN <| ?_
  refine WC.ff rfl ?_
  refine WC.region <| sv (veq rfl rfl) <| sv (vaB rfl) <| WL.nil <| WX.thenN <| ?_
  refine WC.ff rfl ?_
  refine WC.skip <| WX.blockN <| WX.thenN <| WC.seq <| ?_
  refine WC.cutS [(78, .bool (decide (False)))] [(0, .pointer _), (3, .pointer _)] ⟨rfl, rfl, trivial⟩ ?_ fun ρh => ?_
  · -- council.go:144
    refine WC.draws rfl (by kernel_rfl) <| qv (vfldp fl37f1 rfl) <| qv (vldc pl3 rfl) <| qvs (vlt rfl rfl) (fun q1 => ?_) (fun q1 => ?_)
    ·
      exact qv (vmB rfl) <| qng rfl <| qng rfl <| qng rfl <| qng rfl <| qng rfl <| qng rfl <| qng rfl <| qng rfl <| qv (vpkt rfl) <| WQ.nil <| WX.mid () trivial ⟨bT (by first | omega | simp_all | grind), trivial⟩ ⟨rfl, rfl, trivial⟩ (fun _ h => Sb.own (by repeat' (first | with_reducible exact Sb.all | exact Sb.nil | (apply Sb.cons; focus (first | ((repeat (first | with_reducible exact Tk.here | with_reducible apply Tk.there)); done) | ((repeat (first | exact Tk.here | apply Tk.there)); done))) | apply Sb.drop)) h)
    ·
      exact qv (vmB rfl) <| qvg rfl (vfldp fl37f1 rfl) <| qvg rfl (vldc pl3 rfl) <| qvg rfl (vmP rfl) <| qvg rfl (vnil rfl) <| qvg rfl (vfldpz fl58f0 rfl) <| qvg rfl (vldc pl56 rfl) <| qvg rfl (vlen Try.underlying56 rfl) <| qvg rfl (vgt rfl rfl) <| qv (vpkf rfl) <| WQ.nil <| WX.mid () trivial ⟨bI ⟨fun h => by omega, False.elim⟩, trivial⟩ ⟨rfl, rfl, trivial⟩ (fun _ h => Sb.own (by repeat' (first | with_reducible exact Sb.all | exact Sb.nil | (apply Sb.cons; focus (first | ((repeat (first | with_reducible exact Tk.here | with_reducible apply Tk.there)); done) | ((repeat (first | exact Tk.here | apply Tk.there)); done))) | apply Sb.drop)) h)
  refine WC.ff rfl ?_
  refine WC.skip <| WX.thenN <| WC.seq <| WC.draws rfl (by kernel_rfl) <| qv (vmP rfl) <| qv (vnil rfl) <| qv (vfldpz fl58f0 rfl) <| qv (vldc pl56 rfl) <| qv (vfldp fl37f1 rfl) <| qv (vldc pl3 rfl) <| qv (vsub rfl rfl (by omega)) <| qv (vix1 Try.underlying56 sz59 rfl rfl (by omega) (by omega) reads hpl) <| qv (vldr pl59 rfl hpt) <| qv (vaP rfl) <| WQ.nil <| WX.thenN <| WC.seq <| WC.seq <| WC.region <| sv (vfldpz fl37f0 rfl) <| sv (vldc pl3 rfl) <| WL.nil <| WX.thenN <| WC.block <| WC.seq <| WC.region <| sv (veq rfl rfl) <| sv (vaB rfl) <| WL.nil <| WX.thenN <| ?_
  refine WC.ff rfl ?_
  refine WC.seq <| WC.region <| sv (veq rfl rfl) <| sv (vaB rfl) <| WL.nil <| WX.thenN <| ?_
  refine WC.ff rfl ?_
  refine WC.seq <| WC.region <| sv (veq rfl rfl) <| sv (vaB rfl) <| WL.nil <| WX.thenN <| ?_
  refine WC.ff rfl ?_
  refine WC.seq <| WC.region <| sv (veq rfl rfl) <| sv (vaB rfl) <| WL.nil <| WX.thenN <| ?_
  refine WC.tt rfl ?_
  refine WC.seq <| WC.region <| sv (vmP rfl) <| sv (vnil rfl) <| sv (vfldp fl65f1 rfl) <| sv (vldc pl62 rfl) <| sv (vpeqF Try.underlying62 rfl rfl) <| WL.nil <| WX.thenN <| ?_
  refine WC.ff rfl ?_
  exact WC.skip <| WX.blockN <| WX.thenN <| WC.seq <| WC.region <| sv (vaI rfl) <| WL.nil <| WX.thenN <| WC.ret <| WX.ret1 rfl (()) (trivial) rfl (fun w h => hc_mk (by have h2 := hcw.set (m := m) he; rwa [putM_same hj] at h2) (cL_in he (hX2 w0 m.st (cL1 p j b A) w (Sb.own (by repeat' (first | with_reducible exact Sb.all | exact Sb.nil | (apply Sb.cons; focus (first | ((repeat (first | with_reducible exact Tk.here | with_reducible apply Tk.there)); done) | ((repeat (first | exact Tk.here | apply Tk.there)); done))) | apply Sb.drop)) h))))
theorem c_do_on_down {w0 : World} {A : List HProp} {p j K : Nat} {S : CS} {m : Mg} {n keep : Int} (h : CO K S) (hK : K ≤ 505) (hj : S.ms[j]? = some m) (hx : m.node = none) : Fun Try.prog w0 16 [.pointer (some ⟨p, 0, none⟩), .agg #[.int .i64 7, .int .i64 ((j : Int) + 1), .int .i64 n, .int .i64 keep]] (hc p S :: A) (Ret w0 (fun _ : Unit => True) (fun _ => .int .i64 0) (fun _ => hc p (putM S j (openM ((j : Int) + 1) S.ms.length ⟨{ m.st with off := false }, none, m.rs⟩)) :: A)) := by
  refine Fun.ex (fun w h => hc_open h) ?_
  intro b hcw
  have hbl := hcw.len.1
  obtain ⟨e, he, hem⟩ := hcw.at_ hj
  have hjl := lt_of_at he
  have hl5 := h.n.2
  have hpt := nptrs_at he
  have hpl : 0 < (nptrC (b.l.map ME.q)).length := by rw [nptrC_length, List.length_map]; omega
  refine Fun.ex (fun w h => hman_disk (cL_out he h)) ?_
  rw [hem]
  rintro ⟨np, jp, X⟩ ⟨hX1, hX2, hX3⟩
  dsimp only at hX1 hX2 hX3 ⊢
  have hnp := hX1 hx
  subst hnp
  have hg := h.mg j m hj
  obtain ⟨all, f1, f2, f3, f4⟩ := hg.file
  have hS : (putM S j ⟨{ m.st with off := false }, m.node, m.rs⟩).ms.length = S.ms.length := by unfold putM; rw [List.length_set]
  have hpj : (putM S j ⟨{ m.st with off := false }, m.node, m.rs⟩).ms[j]? = some ⟨{ m.st with off := false }, m.node, m.rs⟩ := by unfold putM; rw [List.getElem?_set_self (by omega)]
  have hrd : (readS lnm { m.st with off := false }).1 = all := by
    unfold readS
    rw [if_neg (show ¬ false = true from fun h => by cases h)]
    dsimp only
    cases hf : m.st.files lnm with
    | none => rw [hf] at f1; exact congrArg Prod.fst f1
    | some v => rw [hf] at f1; exact congrArg Prod.fst f1
  refine Fun.enter Try.func16 rfl Try.ntmps16 rfl ?_
  refine WC.seq <| WC.region <| bxc (v := .agg _) (cs := [.int _ _, .int _ _, .int _ _, .int _ _]) rfl rfl fun b1 => sv (vaI rfl) <| WL.nil <| WX.thenN <| WC.seq <| WC.seq <| WC.region <| sv (vmP rfl) <| sv (vpeqF Try.underlying25 rfl rfl) <| WL.nil <| WX.thenN <| ?_
  refine WC.ff rfl ?_
  refine WC.skip <| WX.thenN <| WC.seq <| WC.seq <| WC.region <| sv (vfldpz fl37f0 rfl) <| sv (vldc pl3 rfl) <| WL.nil <| WX.thenN <| WC.block <| WC.seq <| WC.seq <| WC.region <| sv (veq rfl rfl) <| sv (vaB rfl) <| WL.nil <| WX.thenN <| ?_
  refine WC.ff rfl ?_
  refine WC.seq <| WC.region <| sv (veq rfl rfl) <| sv (vaB rfl) <| WL.nil <| WX.thenN <| ?_
  refine WC.ff rfl ?_
  refine WC.region <| sv (veq rfl rfl) <| sv (vaB rfl) <| WL.nil <| WX.thenN <| ?_
  refine WC.ff rfl ?_
  refine WC.skip <| WX.blockN <| WX.thenN <| WC.seq <| ?_
  refine WC.cutS [(78, .bool (decide (False)))] [(0, .pointer _), (3, .pointer _)] ⟨rfl, rfl, trivial⟩ ?_ fun ρh => ?_
  · -- council.go:144
    refine WC.draws rfl (by kernel_rfl) <| qv (vfldp fl37f1 rfl) <| qv (vldc pl3 rfl) <| qvs (vlt rfl rfl) (fun q1 => ?_) (fun q1 => ?_)
    ·
      exact qv (vmB rfl) <| qng rfl <| qng rfl <| qng rfl <| qng rfl <| qng rfl <| qng rfl <| qng rfl <| qng rfl <| qv (vpkt rfl) <| WQ.nil <| WX.mid () trivial ⟨bT (by first | omega | simp_all | grind), trivial⟩ ⟨rfl, rfl, trivial⟩ (fun _ h => Sb.own (by repeat' (first | with_reducible exact Sb.all | exact Sb.nil | (apply Sb.cons; focus (first | ((repeat (first | with_reducible exact Tk.here | with_reducible apply Tk.there)); done) | ((repeat (first | exact Tk.here | apply Tk.there)); done))) | apply Sb.drop)) h)
    ·
      exact qv (vmB rfl) <| qvg rfl (vfldp fl37f1 rfl) <| qvg rfl (vldc pl3 rfl) <| qvg rfl (vmP rfl) <| qvg rfl (vnil rfl) <| qvg rfl (vfldpz fl58f0 rfl) <| qvg rfl (vldc pl56 rfl) <| qvg rfl (vlen Try.underlying56 rfl) <| qvg rfl (vgt rfl rfl) <| qv (vpkf rfl) <| WQ.nil <| WX.mid () trivial ⟨bI ⟨fun h => by omega, False.elim⟩, trivial⟩ ⟨rfl, rfl, trivial⟩ (fun _ h => Sb.own (by repeat' (first | with_reducible exact Sb.all | exact Sb.nil | (apply Sb.cons; focus (first | ((repeat (first | with_reducible exact Tk.here | with_reducible apply Tk.there)); done) | ((repeat (first | exact Tk.here | apply Tk.there)); done))) | apply Sb.drop)) h)
  refine WC.ff rfl ?_
  refine WC.skip <| WX.thenN <| WC.seq <| WC.draws rfl (by kernel_rfl) <| qv (vmP rfl) <| qv (vnil rfl) <| qv (vfldpz fl58f0 rfl) <| qv (vldc pl56 rfl) <| qv (vfldp fl37f1 rfl) <| qv (vldc pl3 rfl) <| qv (vsub rfl rfl (by omega)) <| qv (vix1 Try.underlying56 sz59 rfl rfl (by omega) (by omega) reads hpl) <| qv (vldr pl59 rfl hpt) <| qv (vaP rfl) <| WQ.nil <| WX.thenN <| WC.seq <| WC.seq <| WC.region <| sv (vfldpz fl37f0 rfl) <| sv (vldc pl3 rfl) <| WL.nil <| WX.thenN <| WC.block <| WC.seq <| WC.region <| sv (veq rfl rfl) <| sv (vaB rfl) <| WL.nil <| WX.thenN <| ?_
  refine WC.ff rfl ?_
  refine WC.seq <| WC.region <| sv (veq rfl rfl) <| sv (vaB rfl) <| WL.nil <| WX.thenN <| ?_
  refine WC.ff rfl ?_
  refine WC.seq <| WC.region <| sv (veq rfl rfl) <| sv (vaB rfl) <| WL.nil <| WX.thenN <| ?_
  refine WC.ff rfl ?_
  refine WC.seq <| WC.region <| sv (veq rfl rfl) <| sv (vaB rfl) <| WL.nil <| WX.thenN <| ?_
  refine WC.tt rfl ?_
  refine WC.seq <| WC.region <| sv (vmP rfl) <| sv (vnil rfl) <| sv (vfldp fl65f1 rfl) <| sv (vldc pl62 rfl) <| sv (vpeqT Try.underlying62 rfl rfl) <| WL.nil <| WX.thenN <| ?_
  refine WC.tt rfl ?_
  refine WC.seq <| WC.region <| sv (vmP rfl) <| sv (vnil rfl) <| sv (vfldpz fl65f0 rfl) <| sv (vldc pl60 rfl) <| clx (by repeat' (first | with_reducible exact Sb.all | exact Sb.nil | (apply Sb.cons; focus (first | ((repeat (first | with_reducible exact Tk.here | with_reducible apply Tk.there)); done) | ((repeat (first | exact Tk.here | apply Tk.there)); done))) | apply Sb.drop)) (disk_on) ct33 rfl fun r53 hr53 => ?_
  refine WL.nil <| WX.thenN <| WC.region <| sv (vmP rfl) <| sv (vfldp fl37f1 rfl) <| sv (vldc pl3 rfl) <| sv (vw (v' := .int .i64 (j : Int)) (vsub rfl rfl (by omega)) (iv (by omega))) <| pm (fun _ h => hc_mk (A := A) (hcw.set (m := ⟨{ m.st with off := false }, m.node, m.rs⟩) he) (cL_in he (hX2 w0 _ (cL1 p j b A) _ (Sb.own (by repeat' (first | with_reducible exact Sb.all | exact Sb.nil | (apply Sb.cons; focus (first | ((repeat (first | with_reducible exact Tk.here | with_reducible apply Tk.there)); done) | ((repeat (first | exact Tk.here | apply Tk.there)); done))) | apply Sb.drop)) h)))) <| clx (by repeat' (first | with_reducible exact Sb.all | exact Sb.nil | (apply Sb.cons; focus (first | ((repeat (first | with_reducible exact Tk.here | with_reducible apply Tk.there)); done) | ((repeat (first | exact Tk.here | apply Tk.there)); done))) | apply Sb.drop)) (c_open (n := (S.ms.length : Int)) (m := ⟨{ m.st with off := false }, m.node, m.rs⟩) (K := K) (by rw [hS]) (by rw [hS]; exact hl5) hpj hx rfl hK hg.deeds (by rw [hrd]; exact f2) hg.len hg.recs hg.new) ct24 rfl fun r56 hr56 => ?_
  exact WL.nil <| WX.blockN <| WX.thenN <| WC.seq <| WC.region <| sv (vaI rfl) <| WL.nil <| WX.thenN <| WC.ret <| WX.ret1 rfl (()) (trivial) rfl (fun w h => by rw [putM_twice, hx] at h; exact h)
end Go.Proofs.Ytigjompojlhomaa
end
section
set_option linter.unusedVariables false
set_option linter.unusedSimpArgs false
set_option maxRecDepth 4000
namespace Go.Council
open Go.Raft Go.Journal Go.Pack Go.Sl Go.Proofs.Ytigjompojlhomaa

/-- mails of one sender, with few cells -/
def Out (id : Int) (l : List Ml) : Prop := ∀ m ∈ l, m.fr = id ∧ m.cells.length ≤ 8
theorem Out.nil {id : Int} : Out id [] := fun m h => by cases h
theorem Out.one {id : Int} {m : Ml} (h : m.fr = id ∧ m.cells.length ≤ 8) : Out id [m] := fun q hq => by rw [List.mem_singleton.1 hq]; exact h
theorem Out.map {id : Int} {l : List Int} {f : Int → Ml} (h : ∀ k, (f k).fr = id ∧ (f k).cells.length ≤ 8) : Out id (l.map f) := fun m hm => by obtain ⟨k, _, rfl⟩ := List.mem_map.1 hm; exact h k
theorem feed_out (x : Rn) (k : Int) : (feedM x k).fr = x.id ∧ (feedM x k).cells.length ≤ 8 := ⟨rfl, by show ((x.log.drop (x.nx k - 1).toNat).take 8).length ≤ 8; rw [List.length_take]; omega⟩
theorem feedAll_out (x : Rn) : Out x.id (feedAllS x).2 := Out.map fun k => feed_out { x with since := 0 } k
theorem lead_out (x : Rn) : Out x.id (leadS x).2 := by
  unfold leadS
  split
  · have := feedAll_out (countS (if x.log.length < 10000 then addS ByteArray.empty (leaderS x) else leaderS x))
    have e : (countS (if x.log.length < 10000 then addS ByteArray.empty (leaderS x) else leaderS x)).id = x.id := by show (if x.log.length < 10000 then addS ByteArray.empty (leaderS x) else leaderS x).id = x.id; split <;> rfl
    rw [e] at this
    exact this
  · exact .nil
theorem tick_out (x : Rn) : Out x.id (tickS x).2 := by
  unfold tickS
  split
  · split
    · exact .nil
    · exact feedAll_out { x with since := x.since + 1 }
  · split
    · exact .nil
    · split
      · exact lead_out (runS x)
      · exact Out.map fun k => ⟨rfl, Nat.zero_le _⟩
theorem take_out (x : Rn) (m : Ml) : Out x.id (takeS x m).2 := by
  have hs : (stepS m x).id = x.id := by unfold stepS; split <;> rfl
  have hr : ∀ (y : Rn) (k : Int) (b : Bool) (n : Int), Out y.id (reply y k b n) := fun y k b n => Out.one ⟨rfl, Nat.zero_le _⟩
  unfold takeS
  split
  · split
    · unfold askedS; rw [← hs]; exact Out.one ⟨rfl, Nat.zero_le _⟩
    · split
      · unfold votesS
        split
        · exact .nil
        · have := lead_out (votedS m.fr (stepS m x)); rw [← hs]; exact this
      · split
        · unfold fedS
          rw [← hs]
          split
          · exact hr _ _ _ _
          · split
            · exact .nil
            · split
              · exact hr _ _ _ _
              · split
                · exact .nil
                · exact hr _ _ _ _
        · unfold answeredS
          rw [← hs]
          split
          · exact .nil
          · split
            · exact Out.one (feed_out _ _)
            · dsimp only
              split
              · exact .nil
              · exact Out.one (feed_out _ _)
  · exact .nil
theorem prop_out (x : Rn) (d : ByteArray) : Out x.id (proposeS x d).2 := feedAll_out (countS (addS d x))
/-- no mail carries many cells -/
def Few (S : CS) : Prop := ∀ m ∈ S.mails, m.cells.length ≤ 8
theorem Few.stepC {S : CS} {i : Nat} {f : Rn → Rn × List Ml} (h : Few S) (hf : ∀ x, Out x.id (f x).2) : Few (Council.stepC i f S).1 := by
  unfold Council.stepC
  split
  · exact h
  · split
    · exact h
    · rename_i x _
      intro m hm
      dsimp only at hm
      split at hm
      · rcases sendM_mem hm with hm | hm
        · exact h m hm
        · exact (hf x m hm).2
      · exact h m hm
theorem Few.act {S : CS} {k i n keep : Int} (h : Few S) : Few (actC k i n keep S).1 := by
  have he : Few ⟨S.ms, S.mails.eraseIdx n.toNat⟩ := fun m hm => h m (List.mem_of_mem_eraseIdx hm)
  unfold actC
  split
  · split
    · dsimp only
      have h1 : Few (if k = 3 then S else ⟨S.ms, S.mails.eraseIdx n.toNat⟩) := by split; exact h; exact he
      split
      · exact h1
      · split
        · exact h1.stepC fun x => take_out x _
        · exact h1
    · exact h
  · split
    · split
      · exact h
      · split
        · exact h.stepC fun x => tick_out x
        · split
          · exact h
          · split
            · exact h
            · split
              · dsimp only
                split
                · exact h
                · exact h
              · exact h
    · exact h
theorem Few.prop {S : CS} {i : Int} {d : ByteArray} (h : Few S) : Few (propC i d S).1 := by
  unfold propC
  split
  · exact h
  · split
    · exact h
    · split
      · exact h
      · split
        · exact h
        · split
          · exact h.stepC fun x => prop_out x d
          · exact h.stepC fun x => prop_out x d
theorem Few.fresh (n : Nat) : Few (freshC n) := fun m hm => by cases hm
end Go.Council
end
section
set_option linter.unusedVariables false
set_option linter.unusedSimpArgs false
set_option maxRecDepth 4000
namespace Go.Proofs.Ytigjompojlhomaa
open Go.Sl Go.RowKit Go.Raft Go.Journal Go.Pack Go.Council

theorem stepI_fst {i : Int} {f : Rn → Rn × List Ml} {S : CS} : (stepI i f S).1 = if 1 ≤ i then (Go.Council.stepC (i - 1).toNat f S).1 else S := by unfold stepI; split <;> rfl
theorem c_do {w0 : World} {A : List HProp} {p K : Nat} {S : CS} {k i n keep : Int} (h : CO K S) (hf : Few S) (hK : K ≤ 505) (hn : n ≤ 9223372036854775807) :
    Fun Try.prog w0 16 [.pointer (some ⟨p, 0, none⟩), .agg #[.int .i64 k, .int .i64 i, .int .i64 n, .int .i64 keep]] (hc p S :: A) (Ret w0 (fun _ : Unit => True) (fun _ => .int .i64 (actC k i n keep S).2) (fun _ => hc p (actC k i n keep S).1 :: A)) := by
  have hcl : ∀ m ∈ S.mails, m.cells.length ≤ 1099511627776 := fun m hm => Nat.le_trans (hf m hm) (by decide)
  by_cases hk : k = 2 ∨ k = 3 ∨ k = 4
  · by_cases hnm : 0 ≤ n ∧ n < S.mails.length
    · obtain ⟨j, rfl⟩ : ∃ j : Nat, n = (j : Int) := ⟨n.toNat, by omega⟩
      have hj : j < S.mails.length := by omega
      have e : actC k i j keep S = (if k = 4 then (if k = 3 then S else ⟨S.ms, S.mails.eraseIdx j⟩) else (stepI (S.mails.getD j ⟨0, 0, 0, 0, 0, 0, 0, false, []⟩).to_ (fun x => takeS x (S.mails.getD j ⟨0, 0, 0, 0, 0, 0, 0, false, []⟩)) (if k = 3 then S else ⟨S.ms, S.mails.eraseIdx j⟩)).1, 0) := by
        unfold actC
        rw [if_pos hk, if_pos hnm, Int.toNat_natCast]
        dsimp only
        rw [stepI_fst]
      rw [e]
      rcases hk with rfl | rfl | rfl
      · rw [if_neg (by decide), if_neg (by decide)]; exact c_do_mail h hK hj hcl
      · rw [if_neg (by decide), if_pos rfl]; exact c_do_twice h hK hj hcl
      · rw [if_pos rfl, if_neg (by decide)]; exact c_do_lose h hK hj hcl
    · have e : actC k i n keep S = (S, 1) := by unfold actC; rw [if_pos hk, if_neg hnm]
      rw [e]
      exact c_do_place hk hnm
  · by_cases hi : 1 ≤ i ∧ i ≤ S.ms.length
    · obtain ⟨j, rfl⟩ : ∃ j : Nat, i = (j : Int) + 1 := ⟨(i - 1).toNat, by omega⟩
      have hjl : j < S.ms.length := by omega
      obtain ⟨m, hm⟩ : ∃ m, S.ms[j]? = some m := ⟨_, List.getElem?_eq_getElem hjl⟩
      have e : actC k ((j : Int) + 1) n keep S = if k = 1 then ((Go.Council.stepC j tickS S).1, 0) else if k = 5 then (putM S j ⟨{ m.st with fuse := max n 0, keep := keep }, m.node, m.rs⟩, 0) else if k = 6 then (putM S j ⟨offS keep m.st, none, m.rs⟩, 0) else if k = 7 then (if m.node.isNone = true then putM S j (openM ((j : Int) + 1) S.ms.length ⟨{ m.st with off := false }, none, m.rs⟩) else S, 0) else (S, 1) := by
        unfold actC
        rw [if_neg hk, if_pos hi, show ((j : Int) + 1 - 1).toNat = j by omega, hm]
      rw [e]
      by_cases h1 : k = 1
      · subst h1; rw [if_pos rfl]; exact c_do_tick h hK hm
      · rw [if_neg h1]
        by_cases h5 : k = 5
        · subst h5; rw [if_pos rfl]; exact c_do_arm h hK hm hn
        · rw [if_neg h5]
          by_cases h6 : k = 6
          · subst h6; rw [if_pos rfl]; exact c_do_off h hK hm
          · rw [if_neg h6]
            by_cases h7 : k = 7
            · subst h7
              rw [if_pos rfl]
              cases hx : m.node with
              | none => rw [if_pos (show (none : Option Rn).isNone = true from rfl)]; exact c_do_on_down h hK hm hx
              | some x => rw [if_neg (show ¬ (some x).isNone = true from fun h => by cases h)]; exact c_do_on_up h hK hm hx
            · rw [if_neg h7]
              exact c_do_other h hK hm (by omega)
    · have e : actC k i n keep S = (S, 1) := by unfold actC; rw [if_neg hk, if_neg hi]
      rw [e]
      exact c_do_mgr hk hi
/-! ### A cell is proposed -/
theorem prop_dof {w0 : World} {A : List HProp} {bn be : Nat} {x : Rn} {d : ByteArray} {v0 v1 : Int} (hx : RInv x) (h : proposeE x d = 0) :
    DoF w0 104 (.agg #[.string d, .pointer (some ⟨bn, 0, none⟩), .pointer (some ⟨be, 0, none⟩)]) (cel bn [.int .i64 v0] 3 :: cel be [.int .i64 v1] 26 :: A) (cel bn [.int .i64 ((x.log.length : Int) + 1)] 3 :: cel be [.int .i64 0] 26 :: A) (fun x => proposeS x d) x := fun np B => by
  have h1 := (prop_do (w0 := w0) (A := B ++ A) (p := np) (bn := bn) (be := be) (v0 := v0) (v1 := v1) hx h)
  refine (h1.perm (A := hnode np x :: (B ++ cel bn [.int .i64 v0] 3 :: cel be [.int .i64 v1] 26 :: A)) fun w H => H.perm (List.Perm.cons _ ((List.perm_middle (l₁ := B)).trans (List.Perm.cons _ (List.perm_middle (l₁ := B)))))).mono ?_
  rintro _ w ⟨i, hi, rfl, hO⟩
  exact ⟨i, hi, rfl, hO.perm (List.Perm.cons _ (List.Perm.cons _ (List.Perm.cons _ ((List.perm_middle (l₁ := B)).trans (List.Perm.cons _ (List.perm_middle (l₁ := B)))).symm)))⟩
theorem prop_dof_err {w0 : World} {A : List HProp} {bn be : Nat} {x : Rn} {d : ByteArray} {v0 v1 : Int} (h : proposeE x d ≠ 0) :
    DoF w0 104 (.agg #[.string d, .pointer (some ⟨bn, 0, none⟩), .pointer (some ⟨be, 0, none⟩)]) (cel bn [.int .i64 v0] 3 :: cel be [.int .i64 v1] 26 :: A) (cel bn [.int .i64 0] 3 :: cel be [.int .i64 (proposeE x d)] 26 :: A) (fun x => (x, [])) x := fun np B => by
  have h1 := (prop_do_err (w0 := w0) (A := B ++ A) (p := np) (bn := bn) (be := be) (v0 := v0) (v1 := v1) h)
  refine (h1.perm (A := hnode np x :: (B ++ cel bn [.int .i64 v0] 3 :: cel be [.int .i64 v1] 26 :: A)) fun w H => H.perm (List.Perm.cons _ ((List.perm_middle (l₁ := B)).trans (List.Perm.cons _ (List.perm_middle (l₁ := B)))))).mono ?_
  rintro _ w ⟨i, hi, rfl, hO⟩
  exact ⟨i, hi, rfl, hO.perm (List.Perm.cons _ (List.Perm.cons _ (List.Perm.cons _ ((List.perm_middle (l₁ := B)).trans (List.Perm.cons _ (List.perm_middle (l₁ := B)))).symm)))⟩
theorem step_same {S : CS} {j : Nat} {m : Mg} {x : Rn} (hj : S.ms[j]? = some m) (hx : m.node = some x) : Go.Council.stepC j (fun x => (x, [])) S = (S, true) := by
  unfold Go.Council.stepC
  rw [hj]
  dsimp only
  rw [hx]
  dsimp only
  have e : stepM x x m = (m, true) := by
    unfold stepM
    rw [if_pos rfl]
    cases m with
    | mk st node rs => dsimp only at hx ⊢; rw [hx]
  rw [e, if_pos rfl]
  have e2 : sendM S.mails [] = S.mails := by unfold sendM; simp
  rw [e2]
  have := putM_same hj
  unfold putM at this
  rw [this]
theorem baZ {d : ByteArray} (h : d.size = 0) : d = ByteArray.mk #[] := by
  cases d with
  | mk a =>
    have : a = #[] := by simpa [ByteArray.size] using h
    rw [this]
theorem c_prop_nil {w0 : World} {A : List HProp} {i : Int} {d : ByteArray} : Fun Try.prog w0 20 [.pointer none, .int .i64 i, .string d] A (Ret w0 (fun _ : Unit => True) (fun _ => .tuple #[.int .i64 0, .int .i64 3]) (fun _ => A)) := by
  refine Fun.enter Try.func20 rfl Try.ntmps20 rfl ?_
  refine WC.seq <| WC.region <| sv (vaI rfl) <| sv (vaI rfl) <| WL.nil <| WX.thenN <| WC.seq <| WC.block <| WC.seq <| WC.region <| sv (vmP rfl) <| sv (vpeqT Try.underlying25 rfl rfl) <| sv (vaB rfl) <| WL.nil <| WX.thenN <| ?_
  refine WC.tt rfl ?_
  exact WC.seq <| WC.region <| sv (vaI rfl) <| sv (vaI rfl) <| WL.nil <| WX.thenN <| WC.ret <| WX.blockR <| WX.thenR <| WX.ret2 rfl (()) (trivial) rfl (fun _ h => Sb.own (by repeat' (first | with_reducible exact Sb.all | exact Sb.nil | (apply Sb.cons; focus (first | ((repeat (first | with_reducible exact Tk.here | with_reducible apply Tk.there)); done) | ((repeat (first | exact Tk.here | apply Tk.there)); done))) | apply Sb.drop)) h)
theorem c_prop_arg {w0 : World} {A : List HProp} {p : Nat} {S : CS} {i : Int} {d : ByteArray} (hi : i < 1 ∨ (S.ms.length : Int) < i ∨ d.size = 0 ∨ 4096 < d.size) : Fun Try.prog w0 20 [.pointer (some ⟨p, 0, none⟩), .int .i64 i, .string d] (hc p S :: A) (Ret w0 (fun _ : Unit => True) (fun _ => .tuple #[.int .i64 0, .int .i64 1]) (fun _ => hc p S :: A)) := by
  refine Fun.ex (fun w h => hc_open h) ?_
  intro b hcw
  have hbl := hcw.len.1
  refine Fun.enter Try.func20 rfl Try.ntmps20 rfl ?_
  refine WC.seq <| WC.region <| sv (vaI rfl) <| sv (vaI rfl) <| WL.nil <| WX.thenN <| WC.seq <| WC.block <| WC.seq <| WC.region <| sv (vmP rfl) <| sv (vpeqF Try.underlying25 rfl rfl) <| sv (vaB rfl) <| WL.nil <| WX.thenN <| ?_
  refine WC.ff rfl ?_
  refine WC.cutS [(13, .bool (decide (True)))] [(0, .pointer _), (1, .int _ _), (2, .string _)] ⟨rfl, rfl, rfl, trivial⟩ ?_ fun ρh => ?_
  · -- council.go:172
    refine WC.region <| sv (vmI rfl) <| svs (vlt rfl rfl) (fun q1 => ?_) (fun q1 => ?_)
    ·
      exact sv (vmB rfl) <| sng rfl <| sng rfl <| sng rfl <| sng rfl <| sng rfl <| sng rfl <| sng rfl <| sv (vpkt rfl) <| sv (vmB rfl) <| sng rfl <| sng rfl <| sv (vpkt rfl) <| sv (vmB rfl) <| sng rfl <| sng rfl <| sng rfl <| sv (vpkt rfl) <| sv (vaB rfl) <| WL.nil <| WX.mid () trivial ⟨bT (by first | omega | simp_all | grind), trivial⟩ ⟨rfl, rfl, rfl, trivial⟩ (fun _ h => Sb.own (by repeat' (first | with_reducible exact Sb.all | exact Sb.nil | (apply Sb.cons; focus (first | ((repeat (first | with_reducible exact Tk.here | with_reducible apply Tk.there)); done) | ((repeat (first | exact Tk.here | apply Tk.there)); done))) | apply Sb.drop)) h)
    ·
      refine sv (vmB rfl) <| svg rfl (vmI rfl) <| svg rfl (vmP rfl) <| svg rfl (vnil rfl) <| svg rfl (vfldpz fl58f0 rfl) <| svg rfl (vldc pl56 rfl) <| svg rfl (vlen Try.underlying56 rfl) <| svsg rfl (vgt rfl rfl) (fun q2 => ?_) (fun q2 => ?_)
      ·
        exact sv (vpkf rfl) <| sv (vmB rfl) <| sng rfl <| sng rfl <| sv (vpkt rfl) <| sv (vmB rfl) <| sng rfl <| sng rfl <| sng rfl <| sv (vpkt rfl) <| sv (vaB rfl) <| WL.nil <| WX.mid () trivial ⟨bT (by first | omega | simp_all | grind), trivial⟩ ⟨rfl, rfl, rfl, trivial⟩ (fun _ h => Sb.own (by repeat' (first | with_reducible exact Sb.all | exact Sb.nil | (apply Sb.cons; focus (first | ((repeat (first | with_reducible exact Tk.here | with_reducible apply Tk.there)); done) | ((repeat (first | exact Tk.here | apply Tk.there)); done))) | apply Sb.drop)) h)
      ·
        refine sv (vpkf rfl) <| sv (vmB rfl) <| svg rfl (vmT rfl) <| svsg rfl (veqs rfl rfl) (fun q3 => ?_) (fun q3 => ?_)
        ·
          exact sv (vpkf rfl) <| sv (vmB rfl) <| sng rfl <| sng rfl <| sng rfl <| sv (vpkt rfl) <| sv (vaB rfl) <| WL.nil <| WX.mid () trivial ⟨bT (by first | omega | simp_all | grind), trivial⟩ ⟨rfl, rfl, rfl, trivial⟩ (fun _ h => Sb.own (by repeat' (first | with_reducible exact Sb.all | exact Sb.nil | (apply Sb.cons; focus (first | ((repeat (first | with_reducible exact Tk.here | with_reducible apply Tk.there)); done) | ((repeat (first | exact Tk.here | apply Tk.there)); done))) | apply Sb.drop)) h)
        ·
          exact sv (vpkf rfl) <| sv (vmB rfl) <| svg rfl (vmT rfl) <| svg rfl (vlens Try.underlying9 rfl) <| svg rfl (vgt rfl rfl) <| sv (vpkf rfl) <| sv (vaB rfl) <| WL.nil <| WX.mid () trivial ⟨bI ⟨fun _ => trivial, fun _ => by have hz : d.size ≠ 0 := (fun h => q3 (baZ h)); omega⟩, trivial⟩ ⟨rfl, rfl, rfl, trivial⟩ (fun _ h => Sb.own (by repeat' (first | with_reducible exact Sb.all | exact Sb.nil | (apply Sb.cons; focus (first | ((repeat (first | with_reducible exact Tk.here | with_reducible apply Tk.there)); done) | ((repeat (first | exact Tk.here | apply Tk.there)); done))) | apply Sb.drop)) h)
  refine WC.tt rfl ?_
  exact WC.seq <| WC.region <| sv (vaI rfl) <| sv (vaI rfl) <| WL.nil <| WX.thenN <| WC.ret <| WX.blockR <| WX.thenR <| WX.ret2 rfl (()) (trivial) rfl (fun w h => hc_mk hcw (Sb.own (by repeat' (first | with_reducible exact Sb.all | exact Sb.nil | (apply Sb.cons; focus (first | ((repeat (first | with_reducible exact Tk.here | with_reducible apply Tk.there)); done) | ((repeat (first | exact Tk.here | apply Tk.there)); done))) | apply Sb.drop)) h))
theorem c_prop_down {w0 : World} {A : List HProp} {p j : Nat} {S : CS} {m : Mg} {d : ByteArray} (hl5 : S.ms.length ≤ 5) (hj : S.ms[j]? = some m) (hx : m.node = none) (hd : d.size ≠ 0 ∧ d.size ≤ 4096) : Fun Try.prog w0 20 [.pointer (some ⟨p, 0, none⟩), .int .i64 ((j : Int) + 1), .string d] (hc p S :: A) (Ret w0 (fun _ : Unit => True) (fun _ => .tuple #[.int .i64 0, .int .i64 20]) (fun _ => hc p S :: A)) := by
  refine Fun.ex (fun w h => hc_open h) ?_
  intro b hcw
  have hbl := hcw.len.1
  have hjl : j < S.ms.length := (List.getElem?_eq_some_iff.1 hj).1
  have hne : ¬ d = ByteArray.mk #[] := fun e => hd.1 (by rw [e]; rfl)
  refine Fun.enter Try.func20 rfl Try.ntmps20 rfl ?_
  refine WC.seq <| WC.region <| sv (vaI rfl) <| sv (vaI rfl) <| WL.nil <| WX.thenN <| WC.seq <| WC.block <| WC.seq <| WC.region <| sv (vmP rfl) <| sv (vpeqF Try.underlying25 rfl rfl) <| sv (vaB rfl) <| WL.nil <| WX.thenN <| ?_
  refine WC.ff rfl ?_
  refine WC.cutS [(13, .bool (decide (False)))] [(0, .pointer _), (1, .int _ _), (2, .string _)] ⟨rfl, rfl, rfl, trivial⟩ ?_ fun ρh => ?_
  · -- council.go:172
    refine WC.region <| sv (vmI rfl) <| svs (vlt rfl rfl) (fun q1 => ?_) (fun q1 => ?_)
    ·
      exact sv (vmB rfl) <| sng rfl <| sng rfl <| sng rfl <| sng rfl <| sng rfl <| sng rfl <| sng rfl <| sv (vpkt rfl) <| sv (vmB rfl) <| sng rfl <| sng rfl <| sv (vpkt rfl) <| sv (vmB rfl) <| sng rfl <| sng rfl <| sng rfl <| sv (vpkt rfl) <| sv (vaB rfl) <| WL.nil <| WX.mid () trivial ⟨bT (by omega), trivial⟩ ⟨rfl, rfl, rfl, trivial⟩ (fun _ h => Sb.own (by repeat' (first | with_reducible exact Sb.all | exact Sb.nil | (apply Sb.cons; focus (first | ((repeat (first | with_reducible exact Tk.here | with_reducible apply Tk.there)); done) | ((repeat (first | exact Tk.here | apply Tk.there)); done))) | apply Sb.drop)) h)
    ·
      refine sv (vmB rfl) <| svg rfl (vmI rfl) <| svg rfl (vmP rfl) <| svg rfl (vnil rfl) <| svg rfl (vfldpz fl58f0 rfl) <| svg rfl (vldc pl56 rfl) <| svg rfl (vlen Try.underlying56 rfl) <| svsg rfl (vgt rfl rfl) (fun q2 => ?_) (fun q2 => ?_)
      ·
        exact sv (vpkf rfl) <| sv (vmB rfl) <| sng rfl <| sng rfl <| sv (vpkt rfl) <| sv (vmB rfl) <| sng rfl <| sng rfl <| sng rfl <| sv (vpkt rfl) <| sv (vaB rfl) <| WL.nil <| WX.mid () trivial ⟨bT (by omega), trivial⟩ ⟨rfl, rfl, rfl, trivial⟩ (fun _ h => Sb.own (by repeat' (first | with_reducible exact Sb.all | exact Sb.nil | (apply Sb.cons; focus (first | ((repeat (first | with_reducible exact Tk.here | with_reducible apply Tk.there)); done) | ((repeat (first | exact Tk.here | apply Tk.there)); done))) | apply Sb.drop)) h)
      ·
        refine sv (vpkf rfl) <| sv (vmB rfl) <| svg rfl (vmT rfl) <| svsg rfl (veqs rfl rfl) (fun q3 => ?_) (fun q3 => ?_)
        ·
          exact sv (vpkf rfl) <| sv (vmB rfl) <| sng rfl <| sng rfl <| sng rfl <| sv (vpkt rfl) <| sv (vaB rfl) <| WL.nil <| WX.mid () trivial ⟨bT (hne q3), trivial⟩ ⟨rfl, rfl, rfl, trivial⟩ (fun _ h => Sb.own (by repeat' (first | with_reducible exact Sb.all | exact Sb.nil | (apply Sb.cons; focus (first | ((repeat (first | with_reducible exact Tk.here | with_reducible apply Tk.there)); done) | ((repeat (first | exact Tk.here | apply Tk.there)); done))) | apply Sb.drop)) h)
        ·
          exact sv (vpkf rfl) <| sv (vmB rfl) <| svg rfl (vmT rfl) <| svg rfl (vlens Try.underlying9 rfl) <| svg rfl (vgt rfl rfl) <| sv (vpkf rfl) <| sv (vaB rfl) <| WL.nil <| WX.mid () trivial ⟨bI ⟨fun h => by omega, False.elim⟩, trivial⟩ ⟨rfl, rfl, rfl, trivial⟩ (fun _ h => Sb.own (by repeat' (first | with_reducible exact Sb.all | exact Sb.nil | (apply Sb.cons; focus (first | ((repeat (first | with_reducible exact Tk.here | with_reducible apply Tk.there)); done) | ((repeat (first | exact Tk.here | apply Tk.there)); done))) | apply Sb.drop)) h)
  refine WC.ff rfl ?_
  refine WC.skip <| WX.blockN <| WX.thenN <| WC.seq <| WC.region <| alz (cs := [.int .i64 0]) zt3 (by rfl) fun b3 => alz (cs := [.int .i64 0]) zt26 (by rfl) fun b4 => stp (v := .int _ _) pl3 sz3 rfl rfl rfl <| stp (v := .int _ _) pl26 sz26 rfl rfl rfl <| WL.nil <| WX.thenN <| WC.seq <| WC.seq <| WC.region <| sv (vmP rfl) <| sv (vmI rfl) <| sv (vmT rfl) <| sv (vbd (ps := [(0, .string _), (1, _), (2, _)]) (cs := [_, _, _]) bt86 zt86 rfl (by rfl)) <| sv (vmki rfl rfl) <| pm (fun _ h => hc_mk (A := cel b3 [.int .i64 0] 3 :: cel b4 [.int .i64 20] 26 :: A) hcw (Sb.own (by repeat' (first | with_reducible exact Sb.all | exact Sb.nil | (apply Sb.cons; focus (first | ((repeat (first | with_reducible exact Tk.here | with_reducible apply Tk.there)); done) | ((repeat (first | exact Tk.here | apply Tk.there)); done))) | apply Sb.drop)) h)) <| clx (by repeat' (first | with_reducible exact Sb.all | exact Sb.nil | (apply Sb.cons; focus (first | ((repeat (first | with_reducible exact Tk.here | with_reducible apply Tk.there)); done) | ((repeat (first | exact Tk.here | apply Tk.there)); done))) | apply Sb.drop)) (c_step_nil (A := cel b3 [.int .i64 0] 3 :: cel b4 [.int .i64 20] 26 :: A) hl5 hj hx) ct30 rfl fun r9 hr9 => ?_
  refine sv (vnot rfl) <| WL.nil <| WX.thenN <| ?_
  refine WC.tt rfl ?_
  exact WC.seq <| WC.region <| sv (vaI rfl) <| sv (vaI rfl) <| WL.nil <| WX.thenN <| WC.ret <| WX.thenR <| WX.ret2 rfl (()) (trivial) rfl (fun _ h => Sb.own (by repeat' (first | with_reducible exact Sb.all | exact Sb.nil | (apply Sb.cons; focus (first | ((repeat (first | with_reducible exact Tk.here | with_reducible apply Tk.there)); done) | ((repeat (first | exact Tk.here | apply Tk.there)); done))) | apply Sb.drop)) h)
theorem c_prop_up {w0 : World} {A : List HProp} {p j K : Nat} {S : CS} {m : Mg} {x : Rn} {d : ByteArray} {f : Rn → Rn × List Ml} {r e : Int} (h : CO K S) (hK : K ≤ 505) (hj : S.ms[j]? = some m) (hx : m.node = some x) (hd : d.size ≠ 0 ∧ d.size ≤ 4096)
    (hf : RInv x → RInv (f x).1 ∧ (f x).1.n = x.n ∧ Wr x.log (f x).1.log)
    (hdo : ∀ (w0 : World) (A : List HProp) (bn be : Nat), RInv x → DoF w0 104 (.agg #[.string d, .pointer (some ⟨bn, 0, none⟩), .pointer (some ⟨be, 0, none⟩)]) (cel bn [.int .i64 0] 3 :: cel be [.int .i64 20] 26 :: A) (cel bn [.int .i64 r] 3 :: cel be [.int .i64 e] 26 :: A) f x) : Fun Try.prog w0 20 [.pointer (some ⟨p, 0, none⟩), .int .i64 ((j : Int) + 1), .string d] (hc p S :: A) (Ret w0 (fun _ : Unit => True) (fun _ => .tuple #[.int .i64 (if (Go.Council.stepC j f S).2 = true then r else 0), .int .i64 (if (Go.Council.stepC j f S).2 = true then e else 20)]) (fun _ => hc p (Go.Council.stepC j f S).1 :: A)) := by
  refine Fun.ex (fun w h => hc_open h) ?_
  intro b hcw
  have hbl := hcw.len.1
  have hl5 := h.n.2
  have hjl : j < S.ms.length := (List.getElem?_eq_some_iff.1 hj).1
  have hne : ¬ d = ByteArray.mk #[] := fun e => hd.1 (by rw [e]; rfl)
  have hg := h.mg j m hj
  obtain ⟨g1, g2, g3, g4, g5⟩ := hg.up x hx
  obtain ⟨f1, f2, f3⟩ := hf g2
  refine Fun.enter Try.func20 rfl Try.ntmps20 rfl ?_
  refine WC.seq <| WC.region <| sv (vaI rfl) <| sv (vaI rfl) <| WL.nil <| WX.thenN <| WC.seq <| WC.block <| WC.seq <| WC.region <| sv (vmP rfl) <| sv (vpeqF Try.underlying25 rfl rfl) <| sv (vaB rfl) <| WL.nil <| WX.thenN <| ?_
  refine WC.ff rfl ?_
  refine WC.cutS [(13, .bool (decide (False)))] [(0, .pointer _), (1, .int _ _), (2, .string _)] ⟨rfl, rfl, rfl, trivial⟩ ?_ fun ρh => ?_
  · -- council.go:172
    refine WC.region <| sv (vmI rfl) <| svs (vlt rfl rfl) (fun q1 => ?_) (fun q1 => ?_)
    ·
      exact sv (vmB rfl) <| sng rfl <| sng rfl <| sng rfl <| sng rfl <| sng rfl <| sng rfl <| sng rfl <| sv (vpkt rfl) <| sv (vmB rfl) <| sng rfl <| sng rfl <| sv (vpkt rfl) <| sv (vmB rfl) <| sng rfl <| sng rfl <| sng rfl <| sv (vpkt rfl) <| sv (vaB rfl) <| WL.nil <| WX.mid () trivial ⟨bT (by omega), trivial⟩ ⟨rfl, rfl, rfl, trivial⟩ (fun _ h => Sb.own (by repeat' (first | with_reducible exact Sb.all | exact Sb.nil | (apply Sb.cons; focus (first | ((repeat (first | with_reducible exact Tk.here | with_reducible apply Tk.there)); done) | ((repeat (first | exact Tk.here | apply Tk.there)); done))) | apply Sb.drop)) h)
    ·
      refine sv (vmB rfl) <| svg rfl (vmI rfl) <| svg rfl (vmP rfl) <| svg rfl (vnil rfl) <| svg rfl (vfldpz fl58f0 rfl) <| svg rfl (vldc pl56 rfl) <| svg rfl (vlen Try.underlying56 rfl) <| svsg rfl (vgt rfl rfl) (fun q2 => ?_) (fun q2 => ?_)
      ·
        exact sv (vpkf rfl) <| sv (vmB rfl) <| sng rfl <| sng rfl <| sv (vpkt rfl) <| sv (vmB rfl) <| sng rfl <| sng rfl <| sng rfl <| sv (vpkt rfl) <| sv (vaB rfl) <| WL.nil <| WX.mid () trivial ⟨bT (by omega), trivial⟩ ⟨rfl, rfl, rfl, trivial⟩ (fun _ h => Sb.own (by repeat' (first | with_reducible exact Sb.all | exact Sb.nil | (apply Sb.cons; focus (first | ((repeat (first | with_reducible exact Tk.here | with_reducible apply Tk.there)); done) | ((repeat (first | exact Tk.here | apply Tk.there)); done))) | apply Sb.drop)) h)
      ·
        refine sv (vpkf rfl) <| sv (vmB rfl) <| svg rfl (vmT rfl) <| svsg rfl (veqs rfl rfl) (fun q3 => ?_) (fun q3 => ?_)
        ·
          exact sv (vpkf rfl) <| sv (vmB rfl) <| sng rfl <| sng rfl <| sng rfl <| sv (vpkt rfl) <| sv (vaB rfl) <| WL.nil <| WX.mid () trivial ⟨bT (hne q3), trivial⟩ ⟨rfl, rfl, rfl, trivial⟩ (fun _ h => Sb.own (by repeat' (first | with_reducible exact Sb.all | exact Sb.nil | (apply Sb.cons; focus (first | ((repeat (first | with_reducible exact Tk.here | with_reducible apply Tk.there)); done) | ((repeat (first | exact Tk.here | apply Tk.there)); done))) | apply Sb.drop)) h)
        ·
          exact sv (vpkf rfl) <| sv (vmB rfl) <| svg rfl (vmT rfl) <| svg rfl (vlens Try.underlying9 rfl) <| svg rfl (vgt rfl rfl) <| sv (vpkf rfl) <| sv (vaB rfl) <| WL.nil <| WX.mid () trivial ⟨bI ⟨fun h => by omega, False.elim⟩, trivial⟩ ⟨rfl, rfl, rfl, trivial⟩ (fun _ h => Sb.own (by repeat' (first | with_reducible exact Sb.all | exact Sb.nil | (apply Sb.cons; focus (first | ((repeat (first | with_reducible exact Tk.here | with_reducible apply Tk.there)); done) | ((repeat (first | exact Tk.here | apply Tk.there)); done))) | apply Sb.drop)) h)
  refine WC.ff rfl ?_
  refine WC.skip <| WX.blockN <| WX.thenN <| WC.seq <| WC.region <| alz (cs := [.int .i64 0]) zt3 (by rfl) fun b3 => alz (cs := [.int .i64 0]) zt26 (by rfl) fun b4 => stp (v := .int _ _) pl3 sz3 rfl rfl rfl <| stp (v := .int _ _) pl26 sz26 rfl rfl rfl <| WL.nil <| WX.thenN <| WC.seq <| WC.seq <| WC.region <| sv (vmP rfl) <| sv (vmI rfl) <| sv (vmT rfl) <| sv (vbd (ps := [(0, .string _), (1, _), (2, _)]) (cs := [_, _, _]) bt86 zt86 rfl (by rfl)) <| sv (vmki rfl rfl) <| pm (fun _ h => hc_mk (A := cel b3 [.int .i64 0] 3 :: cel b4 [.int .i64 20] 26 :: A) hcw (Sb.own (by repeat' (first | with_reducible exact Sb.all | exact Sb.nil | (apply Sb.cons; focus (first | ((repeat (first | with_reducible exact Tk.here | with_reducible apply Tk.there)); done) | ((repeat (first | exact Tk.here | apply Tk.there)); done))) | apply Sb.drop)) h)) <| clx (by repeat' (first | with_reducible exact Sb.all | exact Sb.nil | (apply Sb.cons; focus (first | ((repeat (first | with_reducible exact Tk.here | with_reducible apply Tk.there)); done) | ((repeat (first | exact Tk.here | apply Tk.there)); done))) | apply Sb.drop)) (c_step_up (A := cel b3 [.int .i64 0] 3 :: cel b4 [.int .i64 20] 26 :: A) (A' := cel b3 [.int .i64 r] 3 :: cel b4 [.int .i64 e] 26 :: A) h.n.2 h.mails hj hx hg hK (by omega) f1 (by rw [f2]; exact g3.2) f3 (by kernel_rfl) (by kernel_rfl) (hdo w0 A b3 b4 g2)) ct30 rfl fun r9 hr9 => ?_
  refine sv (vnot rfl) <| WL.nil <| WX.thenN <| ?_
  refine WC.iteb rfl (fun h3 => ?_) (fun h3 => ?_)
  · -- then
    have hh : (Go.Council.stepC j f S).2 = false := by simpa using h3
    rw [hh, if_neg (show ¬ false = true from fun h => by cases h), if_neg (show ¬ false = true from fun h => by cases h)]
    exact WC.seq <| WC.region <| sv (vaI rfl) <| sv (vaI rfl) <| WL.nil <| WX.thenN <| WC.ret <| WX.thenR <| WX.ret2 rfl (()) (trivial) rfl (fun _ h => Sb.own (by repeat' (first | with_reducible exact Sb.all | exact Sb.nil | (apply Sb.cons; focus (first | ((repeat (first | with_reducible exact Tk.here | with_reducible apply Tk.there)); done) | ((repeat (first | exact Tk.here | apply Tk.there)); done))) | apply Sb.drop)) h)
  · -- else
    have hh : (Go.Council.stepC j f S).2 = true := by simpa using h3
    rw [hh, if_pos rfl, if_pos rfl]
    exact WC.skip <| WX.thenN <| WC.seq <| WC.draws rfl (by kernel_rfl) <| qv (vldc pl3 rfl) <| qv (vldc pl26 rfl) <| qv (vaI rfl) <| qv (vaI rfl) <| WQ.nil <| WX.thenN <| WC.ret <| WX.ret2 rfl (()) (trivial) rfl (fun _ h => Sb.own (by repeat' (first | with_reducible exact Sb.all | exact Sb.nil | (apply Sb.cons; focus (first | ((repeat (first | with_reducible exact Tk.here | with_reducible apply Tk.there)); done) | ((repeat (first | exact Tk.here | apply Tk.there)); done))) | apply Sb.drop)) h)
theorem c_propose {w0 : World} {A : List HProp} {p K : Nat} {S : CS} {i : Int} {d : ByteArray} (h : CO K S) (hK : K ≤ 505) : Fun Try.prog w0 20 [.pointer (some ⟨p, 0, none⟩), .int .i64 i, .string d] (hc p S :: A) (Ret w0 (fun _ : Unit => True) (fun _ => .tuple #[.int .i64 (propC i d S).2.1, .int .i64 (propC i d S).2.2]) (fun _ => hc p (propC i d S).1 :: A)) := by
  unfold propC
  by_cases ha : i < 1 ∨ (S.ms.length : Int) < i ∨ d.size = 0 ∨ 4096 < d.size
  · rw [if_pos ha]
    exact c_prop_arg ha
  · rw [if_neg ha]
    obtain ⟨j, rfl⟩ : ∃ j : Nat, i = (j : Int) + 1 := ⟨(i - 1).toNat, by omega⟩
    obtain ⟨m, hm⟩ : ∃ m, S.ms[j]? = some m := ⟨_, List.getElem?_eq_getElem (by omega)⟩
    rw [show ((j : Int) + 1 - 1).toNat = j by omega, hm]
    dsimp only
    cases hx : m.node with
    | none => exact c_prop_down h.n.2 hm hx ⟨by omega, by omega⟩
    | some x =>
      dsimp only
      by_cases he : proposeE x d = 0
      · rw [if_neg (fun e => e he)]
        have hp : d.size ≠ 0 ∧ d.size ≤ 4096 ∧ x.role = 2 ∧ x.log.length < 10000 := by
          have h2 := he
          unfold proposeE at h2
          split at h2
          · cases h2
          · split at h2
            · cases h2
            · split at h2
              · cases h2
              · omega
        have hl : ((proposeS x d).1.log.length : Int) = (x.log.length : Int) + 1 := by
          have : (proposeS x d).1.log = x.log ++ [⟨x.term, d⟩] := rfl
          rw [this, List.length_append]; rfl
        have hu := c_prop_up (w0 := w0) (A := A) (p := p) (d := d) (f := fun x => proposeS x d) (r := (x.log.length : Int) + 1) (e := 0) h hK hm hx ⟨by omega, by omega⟩ (fun hx => ⟨hx.propose hp.2.2.1 hp.2.2.2 hp.2.1, rfl, prop_wr x d⟩) (fun w0 A bn be hx => prop_dof hx he)
        by_cases hs : (Go.Council.stepC j (fun x => proposeS x d) S).2 = true
        · rw [if_pos hs]
          rw [hs, if_pos rfl, if_pos rfl] at hu
          rw [hl]
          exact hu
        · rw [if_neg hs]
          rw [if_neg hs, if_neg hs] at hu
          exact hu
      · rw [if_pos he]
        have hu := c_prop_up (w0 := w0) (A := A) (p := p) (d := d) (f := fun x => (x, [])) (r := 0) (e := proposeE x d) h hK hm hx ⟨by omega, by omega⟩ (fun hx => ⟨hx, rfl, Wr.refl x.log⟩) (fun w0 A bn be hx => prop_dof_err he)
        rw [step_same hm hx, if_pos rfl, if_pos rfl] at hu
        exact hu
end Go.Proofs.Ytigjompojlhomaa
end
section
set_option linter.unusedVariables false
set_option linter.unusedSimpArgs false
set_option maxRecDepth 4000
namespace Go.Council
open Go.Raft Go.Journal Go.Pack Go.Sl Go.Proofs.Ytigjompojlhomaa

theorem add_calm {st : DSt} {all b : List UInt8} {n : Int} (h : Fz st lnm all n) (hf : st.fuse = 0) (hb : all.length + (b.length + 8) ≤ 16777216) : (addP lnm b st).2 = 0 ∧ (addP lnm b st).1.fuse = 0 := by
  have hfl : (all ++ frameB b).length = all.length + (b.length + 8) := by rw [List.length_append, frameB_len]
  have ha := appendS_eq (b := frameB b) h.off lnm_ok (V := (all ++ frameB b, all.length)) (n := all.length + (b.length + 8)) (by unfold appendV; rw [h.file]) hfl
  rw [if_pos hb, if_neg (by omega)] at ha
  have hs : syncS lnm { st with deeds := st.deeds + 1, fuse := max (st.fuse - 1) 0, files := putV lnm (all ++ frameB b, all.length) st.files } = deedS (putV lnm (all ++ frameB b, (all ++ frameB b).length)) id { st with deeds := st.deeds + 1, fuse := max (st.fuse - 1) 0, files := putV lnm (all ++ frameB b, all.length) st.files } := by
    unfold syncS
    rw [if_neg (by dsimp only; rw [h.off]; decide)]
    simp [putV]
  rw [deedS_eq, if_neg (by dsimp only; omega)] at hs
  have hp : addP lnm b st = syncS lnm { st with deeds := st.deeds + 1, fuse := max (st.fuse - 1) 0, files := putV lnm (all ++ frameB b, all.length) st.files } := by
    unfold addP; rw [ha, if_pos rfl]
  rw [hp, hs]
  exact ⟨rfl, by dsimp only; omega⟩
/-- the power fails at the second deed, nothing more is kept -/
theorem add_two {st : DSt} {all b : List UInt8} {n : Int} (h : Fz st lnm all n) (hf : st.fuse = 2) (hk : st.keep = 0) (hb : all.length + (b.length + 8) ≤ 16777216) : (addP lnm b st).2 = 20 ∧ (addP lnm b st).1.files lnm = some (all, all.length) := by
  have hfl : (all ++ frameB b).length = all.length + (b.length + 8) := by rw [List.length_append, frameB_len]
  have ha := appendS_eq (b := frameB b) h.off lnm_ok (V := (all ++ frameB b, all.length)) (n := all.length + (b.length + 8)) (by unfold appendV; rw [h.file]) hfl
  rw [if_pos hb, if_neg (by omega)] at ha
  have hs : syncS lnm { st with deeds := st.deeds + 1, fuse := max (st.fuse - 1) 0, files := putV lnm (all ++ frameB b, all.length) st.files } = deedS (putV lnm (all ++ frameB b, (all ++ frameB b).length)) id { st with deeds := st.deeds + 1, fuse := max (st.fuse - 1) 0, files := putV lnm (all ++ frameB b, all.length) st.files } := by
    unfold syncS
    rw [if_neg (by dsimp only; rw [h.off]; decide)]
    simp [putV]
  rw [deedS_eq, if_pos (by dsimp only; omega)] at hs
  have hp : addP lnm b st = syncS lnm { st with deeds := st.deeds + 1, fuse := max (st.fuse - 1) 0, files := putV lnm (all ++ frameB b, all.length) st.files } := by
    unfold addP; rw [ha, if_pos rfl]
  rw [hp, hs]
  refine ⟨rfl, ?_⟩
  dsimp only
  unfold offS
  rw [if_neg (by dsimp only; rw [h.off]; decide)]
  dsimp only
  rw [show id (putV lnm (all ++ frameB b, all.length) st.files) lnm = some (all ++ frameB b, all.length) by simp [putV]]
  show some (offV st.keep (all ++ frameB b, all.length)) = _
  unfold offV keptOf
  dsimp only
  rw [hk]
  simp
/-! ### Nodes and mails alone -/
abbrev NS := List Rn × List Ml
def stepN (j : Nat) (f : Rn → Rn × List Ml) (q : NS) : NS := match q.1[j]? with
  | none => q
  | some x => (q.1.set j (f x).1, sendM q.2 (f x).2)
structure Calm (S : CS) (q : NS) : Prop where
  nodes : S.ms.map Mg.node = q.1.map some
  mails : S.mails = q.2
  fuse : ∀ m ∈ S.ms, m.st.fuse = 0
theorem Calm.at_ {S : CS} {q : NS} (h : Calm S q) {j : Nat} {x : Rn} (hx : q.1[j]? = some x) : ∃ m, S.ms[j]? = some m ∧ m.node = some x := by
  have h1 : (S.ms.map Mg.node)[j]? = (q.1.map some)[j]? := by rw [h.nodes]
  rw [List.getElem?_map, List.getElem?_map, hx] at h1
  cases hm : S.ms[j]? with
  | none => rw [hm] at h1; cases h1
  | some m => rw [hm] at h1; exact ⟨m, rfl, Option.some.inj h1⟩
theorem Calm.len {S : CS} {q : NS} (h : Calm S q) : S.ms.length = q.1.length := by have := congrArg List.length h.nodes; simpa using this
theorem Calm.step {K : Nat} {S : CS} {g : Gh} {q : NS} {j : Nat} {f : Rn → Rn × List Ml} {mails : List Ml} (h : CI K S g) (hK : K ≤ 400) (hc : Calm S q) (hj : j < q.1.length)
    (hf : ∀ x : Rn, RInv x → RInv (f x).1 ∧ (f x).1.n = x.n ∧ Wr x.log (f x).1.log) : Calm (Council.stepC j f ⟨S.ms, mails⟩).1 (stepN j f (q.1, mails)) := by
  obtain ⟨x, hx⟩ : ∃ x, q.1[j]? = some x := ⟨_, List.getElem?_eq_getElem hj⟩
  obtain ⟨m, hm, hmn⟩ := hc.at_ hx
  have hg := h.mg j m hm
  obtain ⟨g1, g2, g3, g4, g5⟩ := hg.up x hmn
  obtain ⟨f1, f2, f3⟩ := hf x g2
  have hn := h.n
  have hrec := rec_of hg hmn f1 (by omega) f3
  have hl := hrec.len
  obtain ⟨all, a1, a2, a3, a4⟩ := hg.file
  have hz : Fz m.st lnm all (3 * K) := ⟨g1, hg.fuse, hg.deeds, a1⟩
  have hfu := hc.fuse m (List.mem_of_getElem? hm)
  obtain ⟨y, out, hy⟩ : ∃ y out, f x = (y, out) := ⟨_, _, rfl⟩
  rw [hy] at hl hrec
  dsimp only at hl hrec
  have hst : (stepM x y m).2 = true ∧ (stepM x y m).1.node = some y ∧ (stepM x y m).1.st.fuse = 0 := by
    unfold stepM
    split
    · exact ⟨rfl, rfl, hfu⟩
    · obtain ⟨b1, b2⟩ := add_calm (b := (chg (stOf x) (stOf y)).bytes) hz hfu (by omega)
      unfold saveS
      rw [if_pos b1]
      exact ⟨rfl, rfl, b2⟩
  have e1 : Council.stepC j f ⟨S.ms, mails⟩ = (⟨S.ms.set j (stepM x y m).1, sendM mails out⟩, true) := by
    unfold Council.stepC
    dsimp only
    rw [hm]
    dsimp only
    rw [hmn]
    dsimp only
    rw [hy]
    dsimp only
    rw [hst.1, if_pos rfl]
  have e2 : stepN j f (q.1, mails) = (q.1.set j y, sendM mails out) := by
    unfold stepN
    dsimp only
    rw [hx]
    dsimp only
    rw [hy]
  rw [e1, e2]
  refine ⟨?_, rfl, fun m' hm' => ?_⟩
  · dsimp only
    rw [List.map_set, hst.2.1, hc.nodes, List.map_set]
  · rcases List.mem_or_eq_of_mem_set hm' with h1 | h1
    · exact hc.fuse m' h1
    · rw [h1]; exact hst.2.2
theorem Calm.tick {K : Nat} {S : CS} {g : Gh} {q : NS} {j : Nat} (h : CI K S g) (hK : K ≤ 400) (hc : Calm S q) (hj : j < q.1.length) : Calm (actC 1 ((j : Int) + 1) 0 0 S).1 (stepN j tickS q) ∧ (actC 1 ((j : Int) + 1) 0 0 S).2 = 0 := by
  have hl := hc.len
  obtain ⟨m, hm⟩ : ∃ m, S.ms[j]? = some m := ⟨_, List.getElem?_eq_getElem (by omega)⟩
  have e : actC 1 ((j : Int) + 1) 0 0 S = ((Council.stepC j tickS S).1, 0) := by
    unfold actC
    rw [if_neg (by decide), if_pos (by omega), show ((j : Int) + 1 - 1).toNat = j by omega, hm]
    dsimp only
    rw [if_pos rfl]
  rw [e]
  have h1 := Calm.step (mails := S.mails) (f := tickS) h hK hc hj fun x hx => ⟨hx.tick, (tick_id x).2.1, tick_wr x⟩
  have e2 : (q.1, S.mails) = q := by rw [hc.mails]
  rw [e2] at h1
  exact ⟨h1, rfl⟩
/-- a mail comes -/
theorem Calm.mail {K : Nat} {S : CS} {g : Gh} {q : NS} {n j : Nat} {m : Ml} (h : CI K S g) (hK : K ≤ 400) (hc : Calm S q) (hm : q.2[n]? = some m) (hj : m.to_ = (j : Int) + 1) (hjl : j < q.1.length) : Calm (actC 2 0 n 0 S).1 (stepN j (fun x => takeS x m) (q.1, q.2.eraseIdx n)) ∧ (actC 2 0 n 0 S).2 = 0 := by
  have hn : n < S.mails.length := by rw [hc.mails]; exact (List.getElem?_eq_some_iff.1 hm).1
  have hg : S.mails.getD n ⟨0, 0, 0, 0, 0, 0, 0, false, []⟩ = m := by rw [hc.mails, List.getD_eq_getElem?_getD, hm]; rfl
  have e : actC 2 0 n 0 S = ((Council.stepC j (fun x => takeS x m) ⟨S.ms, S.mails.eraseIdx n⟩).1, 0) := by
    unfold actC
    rw [if_pos (by decide), if_pos (by omega), Int.toNat_natCast]
    dsimp only
    rw [hg, hj, if_neg (show ¬ (2 : Int) = 4 by decide), if_neg (show ¬ (2 : Int) = 3 by decide), if_pos (show (1 : Int) ≤ (j : Int) + 1 by omega), show ((j : Int) + 1 - 1).toNat = j by omega]
  rw [e, hc.mails]
  exact ⟨Calm.step (mails := q.2.eraseIdx n) (f := fun x => takeS x m) h hK hc hjl fun x hx => ⟨hx.take, (Kin.take x m).more.2.1, take_wr x m⟩, rfl⟩
/-! ### The example -/
def tkS : Nat → CS
  | 0 => freshC 3
  | k + 1 => (actC 1 1 0 0 (tkS k)).1
def tkN : Nat → NS
  | 0 => ([newR 1 3 0 0 [], newR 2 3 0 0 [], newR 3 3 0 0 []], [])
  | k + 1 => stepN 0 tickS (tkN k)
theorem tkN_len : ∀ k, (tkN k).1.length = 3
  | 0 => rfl
  | k + 1 => by
    show (stepN 0 tickS (tkN k)).1.length = 3
    unfold stepN
    split
    · exact tkN_len k
    · dsimp only; rw [List.length_set]; exact tkN_len k
theorem tk_all : ∀ k, k ≤ 13 → (∃ g, CI k (tkS k) g) ∧ Calm (tkS k) (tkN k)
  | 0, _ => ⟨⟨gh0, CI.fresh (by decide) (by decide)⟩, ⟨rfl, rfl, fun m hm => by
      obtain ⟨i, hi⟩ := List.mem_iff_getElem?.1 hm
      obtain ⟨rfl, _⟩ := freshC_at hi
      rfl⟩⟩
  | k + 1, hk => by
    obtain ⟨⟨g, h1⟩, h2⟩ := tk_all k (by omega)
    obtain ⟨g', _, h3⟩ := h1.act (k := 1) (i := 1) (n := 0) (keep := 0) (by omega) (by decide)
    exact ⟨⟨g', h3⟩, (Calm.tick (j := 0) h1 (by omega) h2 (by rw [tkN_len]; decide)).1⟩
theorem tk_ans (k : Nat) (hk : k ≤ 13) : (actC 1 1 0 0 (tkS k)).2 = 0 := by
  obtain ⟨⟨g, h1⟩, h2⟩ := tk_all k hk
  exact (Calm.tick (j := 0) h1 (by omega) h2 (by rw [tkN_len]; decide)).2
def mlA : Ml := (tkN 13).2.getD 0 ⟨0, 0, 0, 0, 0, 0, 0, false, []⟩
def aN1 : NS := stepN 1 (fun x => takeS x mlA) ((tkN 13).1, (tkN 13).2.eraseIdx 0)
def mlB : Ml := aN1.2.getD 1 ⟨0, 0, 0, 0, 0, 0, 0, false, []⟩
def aN2 : NS := stepN 0 (fun x => takeS x mlB) (aN1.1, aN1.2.eraseIdx 1)
def nodeQ (q : NS) : Rn := q.1.getD 0 (newR 0 0 0 0 [])
theorem ex_n : (tkN 13).2.length = 2 := by decide +kernel
theorem ex_a : mlA.to_ = 2 := by decide +kernel
theorem ex_b : mlB.to_ = 1 := by decide +kernel
theorem ex_bl : aN1.2.length = 2 := by decide +kernel
theorem ex_l1 : aN1.1.length = 3 := by decide +kernel
theorem ex_l2 : aN2.1.length = 3 := by decide +kernel
theorem ex_role : (nodeQ aN2).role = 2 := by decide +kernel
theorem ex_log : (nodeQ aN2).log.length = 1 := by decide +kernel
def aS1 : CS := (actC 2 0 0 0 (tkS 13)).1
def aS2 : CS := (actC 2 0 1 0 aS1).1
def aS3 : CS := (actC 5 1 2 0 aS2).1
abbrev xB : ByteArray := ⟨#[120]⟩
def aS4 : CS := (propC 1 xB aS3).1
def aS5 : CS := (actC 7 1 0 0 aS4).1
theorem getD_at {l : List Ml} {n : Nat} {d : Ml} (h : n < l.length) : l[n]? = some (l.getD n d) := by rw [List.getD_eq_getElem?_getD, List.getElem?_eq_getElem h]; rfl
theorem ex1 : (∃ g, CI 14 aS1 g) ∧ Calm aS1 aN1 ∧ (actC 2 0 0 0 (tkS 13)).2 = 0 := by
  obtain ⟨⟨g, h1⟩, h2⟩ := tk_all 13 (by decide)
  obtain ⟨g', _, h3⟩ := h1.act (k := 2) (i := 0) (n := 0) (keep := 0) (by decide) (by decide)
  have h4 := Calm.mail (n := 0) (j := 1) (m := mlA) h1 (by decide) h2 (getD_at (by rw [ex_n]; decide)) ex_a (by rw [tkN_len]; decide)
  exact ⟨⟨g', h3⟩, h4.1, h4.2⟩
theorem ex2 : (∃ g, CI 15 aS2 g) ∧ Calm aS2 aN2 ∧ (actC 2 0 1 0 aS1).2 = 0 := by
  obtain ⟨⟨g, h1⟩, h2, _⟩ := ex1
  obtain ⟨g', _, h3⟩ := h1.act (k := 2) (i := 0) (n := 1) (keep := 0) (by decide) (by decide)
  have h4 := Calm.mail (n := 1) (j := 0) (m := mlB) h1 (by decide) h2 (getD_at (by rw [ex_bl]; decide)) ex_b (by rw [ex_l1]; decide)
  exact ⟨⟨g', h3⟩, h4.1, h4.2⟩
theorem ex3 : (∃ g, CI 16 aS3 g) ∧ aS3.ms.length = 3 ∧ ∃ m : Mg, aS3.ms[0]? = some m ∧ m.node = some (nodeQ aN2) ∧ m.st.fuse = 2 ∧ m.st.keep = 0 := by
  obtain ⟨⟨g, h1⟩, h2, _⟩ := ex2
  obtain ⟨g', _, h3⟩ := h1.act (k := 5) (i := 1) (n := 2) (keep := 0) (by decide) (by decide)
  have hl := h2.len
  rw [ex_l2] at hl
  obtain ⟨m, hm, hmn⟩ := h2.at_ (j := 0) (x := nodeQ aN2) (by unfold nodeQ; rw [List.getD_eq_getElem?_getD, List.getElem?_eq_getElem (by rw [ex_l2]; decide)]; rfl)
  have e : aS3 = putM aS2 0 ⟨{ m.st with fuse := 2, keep := 0 }, m.node, m.rs⟩ := by
    unfold aS3 actC
    rw [if_neg (by decide), if_pos (by omega), show ((1 : Int) - 1).toNat = 0 by decide, hm]
    rfl
  refine ⟨⟨g', h3⟩, ?_, ⟨{ m.st with fuse := 2, keep := 0 }, m.node, m.rs⟩, ?_, hmn, rfl, rfl⟩
  · rw [e]; unfold putM; rw [List.length_set]; exact hl
  · rw [e]; unfold putM; rw [List.getElem?_set_self (by omega)]
theorem stab_log {s : St} {x : Rn} (h : stOf x = s) : s.log = x.log := by rw [← h]; rfl
theorem ex4 : (∃ g, CI 17 aS4 g) ∧ aS4.ms.length = 3 ∧ (propC 1 xB aS3).2.2 = 20 ∧ ∃ m : Mg, aS4.ms[0]? = some m ∧ m.node = none ∧ m.st.fuse = 0 ∧ (stab m.rs).log.length = 1 := by
  obtain ⟨⟨g, h1⟩, hl, m, hm, hmn, hfu, hke⟩ := ex3
  obtain ⟨g', _, h3⟩ := h1.prop (i := 1) (d := xB) (by decide)
  have hg := h1.mg 0 m hm
  obtain ⟨x, hx⟩ : ∃ x, x = nodeQ aN2 := ⟨_, rfl⟩
  have hrole : x.role = 2 := by rw [hx]; exact ex_role
  have hlog : x.log.length = 1 := by rw [hx]; exact ex_log
  rw [← hx] at hmn
  obtain ⟨g1, g2, g3, g4, g5⟩ := hg.up x hmn
  have hpe : proposeE x xB = 0 := by
    unfold proposeE
    rw [if_neg (by decide), if_neg (by rw [hrole]; decide), if_neg (by omega)]
  obtain ⟨y, out, hy⟩ : ∃ y out, proposeS x xB = (y, out) := ⟨_, _, rfl⟩
  have hyl : y.log = x.log ++ [⟨x.term, xB⟩] := by have : (proposeS x xB).1.log = x.log ++ [⟨x.term, xB⟩] := rfl; rw [hy] at this; exact this
  have hyi : RInv y := by have := g2.propose (d := xB) hrole (by omega) (by decide); rw [hy] at this; exact this
  have hyn : y.n = x.n := by have : (proposeS x xB).1.n = x.n := rfl; rw [hy] at this; exact this
  have hw : Wr x.log y.log := by rw [hyl]; exact Wr.add _ _
  have hne : ¬ stOf y = stOf x := fun e => by
    have := congrArg (fun s : St => s.log.length) e
    have h5 : y.log.length = x.log.length := this
    rw [hyl, List.length_append] at h5
    simp at h5
  have hn := h1.n
  have hrec := rec_of hg hmn hyi (by omega) hw
  have hrl := hrec.len
  obtain ⟨all, a1, a2, a3, a4⟩ := hg.file
  have hz : Fz m.st lnm all (3 * 16) := ⟨g1, hg.fuse, hg.deeds, a1⟩
  obtain ⟨b1, b2⟩ := add_two (b := (chg (stOf x) (stOf y)).bytes) hz hfu hke (by omega)
  have hod : onDisk (addP lnm (chg (stOf x) (stOf y)).bytes m.st).1 = m.rs.length := by
    unfold onDisk
    rw [b2]
    show (recsB all).1.length = _
    rw [a2, List.length_map]
  have hsv : stepM x y m = (⟨(addP lnm (chg (stOf x) (stOf y)).bytes m.st).1, none, m.rs⟩, false) := by
    unfold stepM
    rw [if_neg hne]
    unfold saveS
    rw [if_neg (by rw [b1]; decide), if_neg (by rw [hod]; omega)]
  have hsc : Council.stepC 0 (fun x => proposeS x xB) aS3 = (⟨aS3.ms.set 0 ⟨(addP lnm (chg (stOf x) (stOf y)).bytes m.st).1, none, m.rs⟩, aS3.mails⟩, false) := by
    unfold Council.stepC
    rw [hm]
    dsimp only
    rw [hmn]
    dsimp only
    have hsv2 : stepM x (proposeS x xB).1 m = (⟨(addP lnm (chg (stOf x) (stOf y)).bytes m.st).1, none, m.rs⟩, false) := by rw [hy]; exact hsv
    rw [hsv2]
    rfl
  have hp : propC 1 xB aS3 = (⟨aS3.ms.set 0 ⟨(addP lnm (chg (stOf x) (stOf y)).bytes m.st).1, none, m.rs⟩, aS3.mails⟩, 0, 20) := by
    unfold propC
    rw [if_neg (by rw [hl]; decide), show ((1 : Int) - 1).toNat = 0 by decide, hm]
    dsimp only
    rw [hmn]
    dsimp only
    rw [if_neg (fun e => e hpe), hsc]
    rfl
  have hfz : (addP lnm (chg (stOf x) (stOf y)).bytes m.st).1.fuse = 0 := by
    rcases hz.add (b := (chg (stOf x) (stOf y)).bytes) lnm_ok (by omega) with ⟨st', e, f⟩ | ⟨st', k, e, k1, k2, f⟩
    · rw [e] at b1; cases b1
    · rw [e]; exact f.fuse
  have e4 : aS4 = ⟨aS3.ms.set 0 ⟨(addP lnm (chg (stOf x) (stOf y)).bytes m.st).1, none, m.rs⟩, aS3.mails⟩ := by unfold aS4; rw [hp]
  refine ⟨⟨g', h3⟩, ?_, by rw [hp], ⟨_, none, m.rs⟩, ?_, rfl, hfz, ?_⟩
  · rw [e4]; dsimp only; rw [List.length_set]; exact hl
  · rw [e4]; dsimp only; rw [List.getElem?_set_self (by omega)]
  · dsimp only
    rw [stab_log g4]
    exact hlog
theorem ex5 : (∃ g, CI 18 aS5 g) ∧ aS5.ms.length = 3 ∧ ∃ (m : Mg) (z : Rn), aS5.ms[0]? = some m ∧ m.node = some z ∧ z.log.length = 1 := by
  obtain ⟨⟨g, h1⟩, hl, _, m, hm, hmn, hfu, hlg⟩ := ex4
  obtain ⟨g', _, h3⟩ := h1.act (k := 7) (i := 1) (n := 0) (keep := 0) (by decide) (by decide)
  have hg := h1.mg 0 m hm
  obtain ⟨all, a1, a2, a3, a4⟩ := hg.file
  have hz : Fz { m.st with off := false } lnm all (3 * 17) := ⟨rfl, hg.fuse, hg.deeds, a1⟩
  have hop : (openS lnm { m.st with off := false }).2 = 0 := by
    unfold openS
    rw [if_neg (show ¬ false = true from fun h => by cases h), if_neg (fun h => h lnm_ok)]
    split
    · rfl
    · unfold cutS
      rw [if_neg (show ¬ false = true from fun h => by cases h)]
      have hrd := hz.read
      rw [hrd]
      have hw := congrArg List.length (recsB_whole all)
      rw [List.length_append] at hw
      cases hf : m.st.files lnm with
      | none =>
        rename_i hne
        exfalso
        rw [hf] at a1
        have : all = [] := (congrArg Prod.fst a1).symm
        rw [hrd, this, recsB_nil] at hne
        exact hne rfl
      | some v =>
        rw [hf] at a1
        have hv : v = (all, all.length) := a1
        subst hv
        dsimp only
        rw [if_neg (by omega), deedS_eq, if_neg (by dsimp only; omega)]
  have hom : openM 1 3 ⟨{ m.st with off := false }, none, m.rs⟩ = ⟨(openS lnm { m.st with off := false }).1, some (newR 1 3 (stab m.rs).term (stab m.rs).vote (stab m.rs).log), m.rs⟩ := by unfold openM; dsimp only; rw [if_pos hop]
  have e5 : aS5 = putM aS4 0 ⟨(openS lnm { m.st with off := false }).1, some (newR 1 3 (stab m.rs).term (stab m.rs).vote (stab m.rs).log), m.rs⟩ := by
    unfold aS5 actC
    rw [if_neg (by decide), if_pos (by rw [hl]; decide), show ((1 : Int) - 1).toNat = 0 by decide, hm]
    dsimp only
    rw [if_neg (by decide), if_neg (by decide), if_neg (by decide), if_pos rfl, hmn, if_pos (show (none : Option Rn).isNone = true from rfl), hl]
    exact congrArg (putM aS4 0) hom
  refine ⟨⟨g', h3⟩, ?_, ⟨(openS lnm { m.st with off := false }).1, some (newR 1 3 (stab m.rs).term (stab m.rs).vote (stab m.rs).log), m.rs⟩, newR 1 3 (stab m.rs).term (stab m.rs).vote (stab m.rs).log, ?_, rfl, ?_⟩
  · rw [e5]; unfold putM; rw [List.length_set]; exact hl
  · rw [e5]; unfold putM; rw [List.getElem?_set_self (by omega)]
  · exact hlg
theorem ex6 : (actC 1 4 0 0 aS5).2 = 1 := by
  obtain ⟨_, hl, _⟩ := ex5
  unfold actC
  rw [if_neg (by decide), if_neg (by rw [hl]; decide)]
end Go.Council
end
section
set_option linter.unusedVariables false
set_option linter.unusedSimpArgs false
set_option maxRecDepth 4000
namespace Go.Proofs.Ytigjompojlhomaa
open Go.Sl Go.RowKit Go.Raft Go.Journal Go.Pack Go.Council

theorem c_do_to {w0 : World} {A : List HProp} {p K : Nat} {S S' : CS} {g : Gh} {k i n keep r : Int} (h : CI K S g) (hf : Few S) (hK : K ≤ 505) (hn : n ≤ 9223372036854775807) (e1 : (actC k i n keep S).1 = S') (e2 : (actC k i n keep S).2 = r) :
    Fun Try.prog w0 16 [.pointer (some ⟨p, 0, none⟩), .agg #[.int .i64 k, .int .i64 i, .int .i64 n, .int .i64 keep]] (hc p S :: A) (Ret w0 (fun _ : Unit => True) (fun _ => .int .i64 r) (fun _ => hc p S' :: A)) := by
  subst e1 e2
  exact c_do h.co hf hK hn
theorem c_prop_to {w0 : World} {A : List HProp} {p K : Nat} {S S' : CS} {g : Gh} {i r e : Int} {d : ByteArray} (h : CI K S g) (hK : K ≤ 505) (e1 : (propC i d S).1 = S') (e2 : (propC i d S).2.1 = r) (e3 : (propC i d S).2.2 = e) : Fun Try.prog w0 20 [.pointer (some ⟨p, 0, none⟩), .int .i64 i, .string d] (hc p S :: A) (Ret w0 (fun _ : Unit => True) (fun _ => .tuple #[.int .i64 r, .int .i64 e]) (fun _ => hc p S' :: A)) := by
  subst e1 e2 e3
  exact c_propose h.co hK
theorem tk_few : ∀ k, Few (tkS k)
  | 0 => Few.fresh 3
  | k + 1 => (tk_few k).act
theorem few1 : Few aS1 := (tk_few 13).act
theorem few2 : Few aS2 := few1.act
theorem few3 : Few aS3 := few2.act
theorem few4 : Few aS4 := few3.prop
theorem few5 : Few aS5 := few4.act
theorem nodeOf1 {S : CS} {m : Mg} (h : S.ms[0]? = some m) : nodeOf S 1 = m.node := nodeOf_at (j := 0) h
theorem law_awake {w0 : World} {A : List HProp} : Fun Try.prog w0 12 [] A (Ret w0 (fun _ : Unit => True) (fun _ => .bool true) (fun _ => A)) := by
  obtain ⟨⟨g13, k13⟩, c13⟩ := tk_all 13 (by decide)
  obtain ⟨⟨g1, k1⟩, c1, a1⟩ := ex1
  obtain ⟨⟨g2, k2⟩, c2, a2⟩ := ex2
  obtain ⟨⟨g3, k3⟩, l3, m3, n3, o3, _, _⟩ := ex3
  obtain ⟨⟨g4, k4⟩, l4, e4, m4, n4, o4, _, _⟩ := ex4
  obtain ⟨⟨g5, k5⟩, l5, m5, z5, n5, o5, zl⟩ := ex5
  have hm13 : (tkS 13).mails.length = 2 := by rw [c13.mails]; exact ex_n
  have hfew13 : ∀ m ∈ (tkS 13).mails, m.cells.length ≤ 1099511627776 := fun m hm => Nat.le_trans (tk_few 13 m hm) (by decide)
  obtain ⟨m2, hm2, hn2⟩ := c2.at_ (j := 0) (x := nodeQ aN2) (by unfold nodeQ; rw [List.getD_eq_getElem?_getD, List.getElem?_eq_getElem (by rw [ex_l2]; decide)]; rfl)
  have nd2 : nodeOf aS2 1 = some (nodeQ aN2) := by rw [nodeOf1 hm2, hn2]
  have nd4 : nodeOf aS4 1 = none := by rw [nodeOf1 n4, o4]
  have nd5 : nodeOf aS5 1 = some z5 := by rw [nodeOf1 n5, o5]
  have hx2 : RInv (nodeQ aN2) := ((k2.mg 0 m2 hm2).up _ hn2).2.1
  have hx5 : RInv z5 := ((k5.mg 0 m5 n5).up _ o5).2.1
  have w2 := k2.n.2
  have w4 := k4.n.2
  have w5 := k5.n.2
  have rl := ex_role
  have ep4 : (propC 1 xB aS3).2.1 = (propC 1 xB aS3).2.1 := rfl
  have lg := ex_log
  refine Fun.enter Try.func12 rfl Try.ntmps12 rfl ?_
  refine WC.seq <| WC.region <| sv (vaB rfl) <| WL.nil <| WX.thenN <| WC.seq <| WC.region <| clx (by repeat' (first | with_reducible exact Sb.all | exact Sb.nil | (apply Sb.cons; focus (first | ((repeat (first | with_reducible exact Tk.here | with_reducible apply Tk.there)); done) | ((repeat (first | exact Tk.here | apply Tk.there)); done))) | apply Sb.drop)) (c_new (n := 3) (by decide) (by decide)) ct9 rfl fun r1 hr1 => ?_
  refine sv vmv <| sv (vex rfl rfl) <| sv (vex rfl rfl) <| sv (vaP rfl) <| sv (vaI rfl) <| WL.nil <| WX.thenN <| WC.seq <| ?_
  refine WC.cutS [(21, .bool (decide (False)))] [(1, .pointer _)] ⟨rfl, trivial⟩ ?_ fun ρh => ?_
  · -- law.go:34
    exact WC.region <| sv (vmP rfl) <| sv (vpeqF Try.underlying25 rfl rfl) <| sv (vmB rfl) <| svg rfl (vmI rfl) <| svg rfl (vne rfl rfl) <| sv (vpkf rfl) <| WL.nil <| WX.mid () trivial ⟨bI (by first | omega | simp_all | grind), trivial⟩ ⟨rfl, trivial⟩ (fun _ h => Sb.own (by repeat' (first | with_reducible exact Sb.all | exact Sb.nil | (apply Sb.cons; focus (first | ((repeat (first | with_reducible exact Tk.here | with_reducible apply Tk.there)); done) | ((repeat (first | exact Tk.here | apply Tk.there)); done))) | apply Sb.drop)) h)
  refine WC.ff rfl ?_
  refine WC.skip <| WX.thenN <| WC.seq <| WC.seq <| WC.region <| sv (vaI rfl) <| WL.nil <| WX.thenN <| WC.block <| ?_
  refine WC.loop (ι := Nat) (fun i => [(3, .int .i64 i)]) [(1, .pointer _)] (fun i => hc r1 (tkS i) :: A) (fun i => i ≤ 13) (fun i => 13 - i) (0) (by omega) ⟨rfl, trivial⟩ ⟨rfl, trivial⟩ (fun _ h => Sb.own (by repeat' (first | with_reducible exact Sb.all | exact Sb.nil | (apply Sb.cons; focus (first | ((repeat (first | with_reducible exact Tk.here | with_reducible apply Tk.there)); done) | ((repeat (first | exact Tk.here | apply Tk.there)); done))) | apply Sb.drop)) h) ?_
  intro i hi ρh
  refine WC.seq <| WC.seq <| WC.region <| sv (vmI rfl) <| sv (vlt rfl rfl) <| WL.nil <| WX.thenN <| ?_
  refine WC.ite rfl (fun h2 => ?_) (fun h2 => ?_)
  · -- then
    obtain ⟨⟨gi, hi1⟩, ci⟩ := tk_all i (by omega)
    have hit := tk_ans i (by omega)
    refine WC.skip <| WX.thenN <| WC.seq <| WC.block <| WC.seq <| WC.region <| sv (vmP rfl) <| sv (vbd (ps := [(0, (.int .i64 1)), (1, (.int .i64 1))]) (cs := [_, _, _, _]) bt37 zt37 rfl (by rfl)) <| clx (by repeat' (first | with_reducible exact Sb.all | exact Sb.nil | (apply Sb.cons; focus (first | ((repeat (first | with_reducible exact Tk.here | with_reducible apply Tk.there)); done) | ((repeat (first | exact Tk.here | apply Tk.there)); done))) | apply Sb.drop)) (c_do_to (S' := tkS (i + 1)) (r := 0) hi1 (tk_few i) (by omega) (by decide) rfl hit) ct16 rfl fun r4 hr4 => ?_
    refine sv (vne rfl rfl) <| WL.nil <| WX.thenN <| ?_
    refine WC.ff rfl ?_
    exact WC.skip <| WX.blockN <| WX.thenN <| WC.region <| sv (vmI rfl) <| sv (vadd rfl rfl (by omega)) <| sv (vaI rfl) <| WL.nil <| WX.again (i + 1) (by omega) (by omega) ⟨rfl, trivial⟩ ⟨rfl, trivial⟩ (fun _ h => Sb.own (by repeat' (first | with_reducible exact Sb.all | exact Sb.nil | (apply Sb.cons; focus (first | ((repeat (first | with_reducible exact Tk.here | with_reducible apply Tk.there)); done) | ((repeat (first | exact Tk.here | apply Tk.there)); done))) | apply Sb.drop)) h)
  · -- else
    have h13e : i = 13 := by omega
    subst h13e
    refine WC.exit <| WX.thenE <| WX.thenE <| WX.blockH <| WX.thenN <| WC.seq <| WC.region <| sv (vmP rfl) <| clx (by repeat' (first | with_reducible exact Sb.all | exact Sb.nil | (apply Sb.cons; focus (first | ((repeat (first | with_reducible exact Tk.here | with_reducible apply Tk.there)); done) | ((repeat (first | exact Tk.here | apply Tk.there)); done))) | apply Sb.drop)) (c_mails k13.mails hfew13) ct22 rfl fun r6 hr6 => ?_
    have hn6 : r6.2.2.length = 2 := by have := congrArg List.length hr6.1; rw [List.length_map, hm13] at this; exact this
    refine sv (vlen Try.underlying50 rfl) <| sv (vaI rfl) <| WL.nil <| WX.thenN <| WC.seq <| WC.region <| sv (vmP rfl) <| sv (vbd (ps := [(0, (.int .i64 2)), (2, (.int .i64 0))]) (cs := [_, _, _, _]) bt37 zt37 rfl (by rfl)) <| clx (by repeat' (first | with_reducible exact Sb.all | exact Sb.nil | (apply Sb.cons; focus (first | ((repeat (first | with_reducible exact Tk.here | with_reducible apply Tk.there)); done) | ((repeat (first | exact Tk.here | apply Tk.there)); done))) | apply Sb.drop)) (c_do_to (S' := aS1) (r := 0) k13 (tk_few 13) (by omega) (by decide) rfl a1) ct16 rfl fun r8 hr8 => ?_
    refine sv (vaI rfl) <| WL.nil <| WX.thenN <| WC.seq <| WC.region <| sv (vmP rfl) <| sv (vbd (ps := [(0, (.int .i64 2)), (2, (.int .i64 1))]) (cs := [_, _, _, _]) bt37 zt37 rfl (by rfl)) <| clx (by repeat' (first | with_reducible exact Sb.all | exact Sb.nil | (apply Sb.cons; focus (first | ((repeat (first | with_reducible exact Tk.here | with_reducible apply Tk.there)); done) | ((repeat (first | exact Tk.here | apply Tk.there)); done))) | apply Sb.drop)) (c_do_to (S' := aS2) (r := 0) k1 few1 (by omega) (by decide) rfl a2) ct16 rfl fun r10 hr10 => ?_
    refine sv (vaI rfl) <| WL.nil <| WX.thenN <| WC.seq <| WC.region <| sv (vmP rfl) <| clx (by repeat' (first | with_reducible exact Sb.all | exact Sb.nil | (apply Sb.cons; focus (first | ((repeat (first | with_reducible exact Tk.here | with_reducible apply Tk.there)); done) | ((repeat (first | exact Tk.here | apply Tk.there)); done))) | apply Sb.drop)) (c_role_some w2 nd2) ct17 rfl fun r11 hr11 => ?_
    refine sv (vaI rfl) <| WL.nil <| WX.thenN <| WC.seq <| WC.region <| sv (vmP rfl) <| clx (by repeat' (first | with_reducible exact Sb.all | exact Sb.nil | (apply Sb.cons; focus (first | ((repeat (first | with_reducible exact Tk.here | with_reducible apply Tk.there)); done) | ((repeat (first | exact Tk.here | apply Tk.there)); done))) | apply Sb.drop)) (c_log_some w2 nd2 hx2) ct15 rfl fun r12 hr12 => ?_
    refine sv (vlen Try.underlying31 rfl) <| sv (vaI rfl) <| WL.nil <| WX.thenN <| WC.seq <| WC.region <| sv (vmP rfl) <| sv (vbd (ps := [(0, (.int .i64 5)), (1, (.int .i64 1)), (2, (.int .i64 2))]) (cs := [_, _, _, _]) bt37 zt37 rfl (by rfl)) <| clx (by repeat' (first | with_reducible exact Sb.all | exact Sb.nil | (apply Sb.cons; focus (first | ((repeat (first | with_reducible exact Tk.here | with_reducible apply Tk.there)); done) | ((repeat (first | exact Tk.here | apply Tk.there)); done))) | apply Sb.drop)) (c_do_to (S' := aS3) k2 few2 (by omega) (by decide) rfl rfl) ct16 rfl fun r14 hr14 => ?_
    refine WL.nil <| WX.thenN <| WC.seq <| WC.region <| sv (vmP rfl) <| clx (by repeat' (first | with_reducible exact Sb.all | exact Sb.nil | (apply Sb.cons; focus (first | ((repeat (first | with_reducible exact Tk.here | with_reducible apply Tk.there)); done) | ((repeat (first | exact Tk.here | apply Tk.there)); done))) | apply Sb.drop)) (c_prop_to (S' := aS4) (e := 20) k3 (by omega) rfl ep4 e4) ct20 rfl fun r15 hr15 => ?_
    refine sv vmv <| sv (vex rfl rfl) <| sv (vex rfl rfl) <| sv (vaI rfl) <| sv (vaI rfl) <| WL.nil <| WX.thenN <| WC.seq <| WC.region <| sv (vmP rfl) <| clx (by repeat' (first | with_reducible exact Sb.all | exact Sb.nil | (apply Sb.cons; focus (first | ((repeat (first | with_reducible exact Tk.here | with_reducible apply Tk.there)); done) | ((repeat (first | exact Tk.here | apply Tk.there)); done))) | apply Sb.drop)) (c_up_none w4 nd4) ct13 rfl fun r16 hr16 => ?_
    refine sv (vaB rfl) <| WL.nil <| WX.thenN <| WC.seq <| WC.region <| sv (vmP rfl) <| sv (vbd (ps := [(0, (.int .i64 7)), (1, (.int .i64 1))]) (cs := [_, _, _, _]) bt37 zt37 rfl (by rfl)) <| clx (by repeat' (first | with_reducible exact Sb.all | exact Sb.nil | (apply Sb.cons; focus (first | ((repeat (first | with_reducible exact Tk.here | with_reducible apply Tk.there)); done) | ((repeat (first | exact Tk.here | apply Tk.there)); done))) | apply Sb.drop)) (c_do_to (S' := aS5) k4 few4 (by omega) (by decide) rfl rfl) ct16 rfl fun r18 hr18 => ?_
    refine WL.nil <| WX.thenN <| ?_
    refine WC.cut0 [(0, .bool (decide (True)))] [] (A) trivial ?_ fun ρh => ?_
    · -- law.go:51
      refine WC.region <| sv (vmI rfl) <| svs (veq rfl rfl) (fun q1 => ?_) (fun q1 => ?_)
      ·
        refine sv (vmB rfl) <| svg rfl (vmI rfl) <| svsg rfl (veq rfl rfl) (fun q2 => ?_) (fun q2 => ?_)
        ·
          refine sv (vpkt rfl) <| sv (vmB rfl) <| svg rfl (vmI rfl) <| svsg rfl (veq rfl rfl) (fun q3 => ?_) (fun q3 => ?_)
          ·
            refine sv (vpkt rfl) <| sv (vmB rfl) <| svg rfl (vmI rfl) <| svsg rfl (veq rfl rfl) (fun q4 => ?_) (fun q4 => ?_)
            ·
              refine sv (vpkt rfl) <| sv (vmB rfl) <| svg rfl (vmI rfl) <| svsg rfl (veq rfl rfl) (fun q5 => ?_) (fun q5 => ?_)
              ·
                refine sv (vpkt rfl) <| sv (vmB rfl) <| svg rfl (vmI rfl) <| svsg rfl (veq rfl rfl) (fun q6 => ?_) (fun q6 => ?_)
                ·
                  refine sv (vpkt rfl) <| sv (vmB rfl) <| svbg rfl (vmB rfl) (fun q7 => ?_) (fun q7 => ?_)
                  ·
                    exact svg rfl (vnot rfl) <| sv (vpkt rfl) <| sv (vmB rfl) <| sng rfl <| sng rfl <| sv (vpkf rfl) <| sv (vmB rfl) <| sng rfl <| sng rfl <| sng rfl <| sng rfl <| sv (vpkf rfl) <| sv (vmB rfl) <| sng rfl <| sng rfl <| sng rfl <| sng rfl <| sv (vpkf rfl) <| sv (vaB rfl) <| WL.nil <| WX.mid () trivial ⟨bF (by first | omega | simp_all | grind), trivial⟩ trivial (fun _ h => Sb.own (by repeat' (first | with_reducible exact Sb.all | exact Sb.nil | (apply Sb.cons; focus (first | ((repeat (first | with_reducible exact Tk.here | with_reducible apply Tk.there)); done) | ((repeat (first | exact Tk.here | apply Tk.there)); done))) | apply Sb.drop)) h)
                  ·
                    refine svg rfl (vnot rfl) <| sv (vpkt rfl) <| sv (vmB rfl) <| svg rfl (vmP rfl) <| gy rfl <| clx (by repeat' (first | with_reducible exact Sb.all | exact Sb.nil | (apply Sb.cons; focus (first | ((repeat (first | with_reducible exact Tk.here | with_reducible apply Tk.there)); done) | ((repeat (first | exact Tk.here | apply Tk.there)); done))) | apply Sb.drop)) (c_up_some w5 nd5) ct13 rfl fun r19 hr19 => ?_
                    refine sv (vpkt rfl) <| sv (vmB rfl) <| svg rfl (vmP rfl) <| gy rfl <| clx (by repeat' (first | with_reducible exact Sb.all | exact Sb.nil | (apply Sb.cons; focus (first | ((repeat (first | with_reducible exact Tk.here | with_reducible apply Tk.there)); done) | ((repeat (first | exact Tk.here | apply Tk.there)); done))) | apply Sb.drop)) (c_log_some w5 nd5 hx5) ct15 rfl fun r20 hr20 => ?_
                    refine svg rfl (vlen Try.underlying31 rfl) <| svsg rfl (veq rfl rfl) (fun q8 => ?_) (fun q8 => ?_)
                    ·
                      refine sv (vpkt rfl) <| sv (vmB rfl) <| svg rfl (vmP rfl) <| svg rfl (vbd (ps := [(0, (.int .i64 1)), (1, (.int .i64 4))]) (cs := [_, _, _, _]) bt37 zt37 rfl (by rfl)) <| gy rfl <| clx (by repeat' (first | with_reducible exact Sb.all | exact Sb.nil | (apply Sb.cons; focus (first | ((repeat (first | with_reducible exact Tk.here | with_reducible apply Tk.there)); done) | ((repeat (first | exact Tk.here | apply Tk.there)); done))) | apply Sb.drop)) (c_do_to (S' := (actC 1 4 0 0 aS5).1) (r := 1) k5 few5 (by omega) (by decide) rfl ex6) ct16 rfl fun r22 hr22 => ?_
                      exact svg rfl (veq rfl rfl) <| sv (vpkt rfl) <| sv (vaB rfl) <| WL.nil <| WX.mid () trivial ⟨bI (by first | omega | simp_all | grind), trivial⟩ trivial (fun _ h => Sb.own (by repeat' (first | with_reducible exact Sb.all | exact Sb.nil | (apply Sb.cons; focus (first | ((repeat (first | with_reducible exact Tk.here | with_reducible apply Tk.there)); done) | ((repeat (first | exact Tk.here | apply Tk.there)); done))) | apply Sb.drop)) h)
                    ·
                      exact sv (vpkt rfl) <| sv (vmB rfl) <| sng rfl <| sng rfl <| sng rfl <| sng rfl <| sv (vpkf rfl) <| sv (vaB rfl) <| WL.nil <| WX.mid () trivial ⟨bF (by first | omega | simp_all | grind), trivial⟩ trivial (fun _ h => Sb.own (by repeat' (first | with_reducible exact Sb.all | exact Sb.nil | (apply Sb.cons; focus (first | ((repeat (first | with_reducible exact Tk.here | with_reducible apply Tk.there)); done) | ((repeat (first | exact Tk.here | apply Tk.there)); done))) | apply Sb.drop)) h)
                ·
                  exact sv (vpkt rfl) <| sv (vmB rfl) <| sng rfl <| sng rfl <| sv (vpkf rfl) <| sv (vmB rfl) <| sng rfl <| sng rfl <| sv (vpkf rfl) <| sv (vmB rfl) <| sng rfl <| sng rfl <| sng rfl <| sng rfl <| sv (vpkf rfl) <| sv (vmB rfl) <| sng rfl <| sng rfl <| sng rfl <| sng rfl <| sv (vpkf rfl) <| sv (vaB rfl) <| WL.nil <| WX.mid () trivial ⟨bF (by first | omega | simp_all | grind), trivial⟩ trivial (fun _ h => Sb.own (by repeat' (first | with_reducible exact Sb.all | exact Sb.nil | (apply Sb.cons; focus (first | ((repeat (first | with_reducible exact Tk.here | with_reducible apply Tk.there)); done) | ((repeat (first | exact Tk.here | apply Tk.there)); done))) | apply Sb.drop)) h)
              ·
                exact sv (vpkt rfl) <| sv (vmB rfl) <| sng rfl <| sng rfl <| sv (vpkf rfl) <| sv (vmB rfl) <| sng rfl <| sng rfl <| sv (vpkf rfl) <| sv (vmB rfl) <| sng rfl <| sng rfl <| sv (vpkf rfl) <| sv (vmB rfl) <| sng rfl <| sng rfl <| sng rfl <| sng rfl <| sv (vpkf rfl) <| sv (vmB rfl) <| sng rfl <| sng rfl <| sng rfl <| sng rfl <| sv (vpkf rfl) <| sv (vaB rfl) <| WL.nil <| WX.mid () trivial ⟨bF (by first | omega | simp_all | grind), trivial⟩ trivial (fun _ h => Sb.own (by repeat' (first | with_reducible exact Sb.all | exact Sb.nil | (apply Sb.cons; focus (first | ((repeat (first | with_reducible exact Tk.here | with_reducible apply Tk.there)); done) | ((repeat (first | exact Tk.here | apply Tk.there)); done))) | apply Sb.drop)) h)
            ·
              exact sv (vpkt rfl) <| sv (vmB rfl) <| sng rfl <| sng rfl <| sv (vpkf rfl) <| sv (vmB rfl) <| sng rfl <| sng rfl <| sv (vpkf rfl) <| sv (vmB rfl) <| sng rfl <| sng rfl <| sv (vpkf rfl) <| sv (vmB rfl) <| sng rfl <| sng rfl <| sv (vpkf rfl) <| sv (vmB rfl) <| sng rfl <| sng rfl <| sng rfl <| sng rfl <| sv (vpkf rfl) <| sv (vmB rfl) <| sng rfl <| sng rfl <| sng rfl <| sng rfl <| sv (vpkf rfl) <| sv (vaB rfl) <| WL.nil <| WX.mid () trivial ⟨bF (by first | omega | simp_all | grind), trivial⟩ trivial (fun _ h => Sb.own (by repeat' (first | with_reducible exact Sb.all | exact Sb.nil | (apply Sb.cons; focus (first | ((repeat (first | with_reducible exact Tk.here | with_reducible apply Tk.there)); done) | ((repeat (first | exact Tk.here | apply Tk.there)); done))) | apply Sb.drop)) h)
          ·
            exact sv (vpkt rfl) <| sv (vmB rfl) <| sng rfl <| sng rfl <| sv (vpkf rfl) <| sv (vmB rfl) <| sng rfl <| sng rfl <| sv (vpkf rfl) <| sv (vmB rfl) <| sng rfl <| sng rfl <| sv (vpkf rfl) <| sv (vmB rfl) <| sng rfl <| sng rfl <| sv (vpkf rfl) <| sv (vmB rfl) <| sng rfl <| sng rfl <| sv (vpkf rfl) <| sv (vmB rfl) <| sng rfl <| sng rfl <| sng rfl <| sng rfl <| sv (vpkf rfl) <| sv (vmB rfl) <| sng rfl <| sng rfl <| sng rfl <| sng rfl <| sv (vpkf rfl) <| sv (vaB rfl) <| WL.nil <| WX.mid () trivial ⟨bF (by first | omega | simp_all | grind), trivial⟩ trivial (fun _ h => Sb.own (by repeat' (first | with_reducible exact Sb.all | exact Sb.nil | (apply Sb.cons; focus (first | ((repeat (first | with_reducible exact Tk.here | with_reducible apply Tk.there)); done) | ((repeat (first | exact Tk.here | apply Tk.there)); done))) | apply Sb.drop)) h)
        ·
          exact sv (vpkt rfl) <| sv (vmB rfl) <| sng rfl <| sng rfl <| sv (vpkf rfl) <| sv (vmB rfl) <| sng rfl <| sng rfl <| sv (vpkf rfl) <| sv (vmB rfl) <| sng rfl <| sng rfl <| sv (vpkf rfl) <| sv (vmB rfl) <| sng rfl <| sng rfl <| sv (vpkf rfl) <| sv (vmB rfl) <| sng rfl <| sng rfl <| sv (vpkf rfl) <| sv (vmB rfl) <| sng rfl <| sng rfl <| sv (vpkf rfl) <| sv (vmB rfl) <| sng rfl <| sng rfl <| sng rfl <| sng rfl <| sv (vpkf rfl) <| sv (vmB rfl) <| sng rfl <| sng rfl <| sng rfl <| sng rfl <| sv (vpkf rfl) <| sv (vaB rfl) <| WL.nil <| WX.mid () trivial ⟨bF (by first | omega | simp_all | grind), trivial⟩ trivial (fun _ h => Sb.own (by repeat' (first | with_reducible exact Sb.all | exact Sb.nil | (apply Sb.cons; focus (first | ((repeat (first | with_reducible exact Tk.here | with_reducible apply Tk.there)); done) | ((repeat (first | exact Tk.here | apply Tk.there)); done))) | apply Sb.drop)) h)
      ·
        exact sv (vmB rfl) <| sng rfl <| sng rfl <| sv (vpkf rfl) <| sv (vmB rfl) <| sng rfl <| sng rfl <| sv (vpkf rfl) <| sv (vmB rfl) <| sng rfl <| sng rfl <| sv (vpkf rfl) <| sv (vmB rfl) <| sng rfl <| sng rfl <| sv (vpkf rfl) <| sv (vmB rfl) <| sng rfl <| sng rfl <| sv (vpkf rfl) <| sv (vmB rfl) <| sng rfl <| sng rfl <| sv (vpkf rfl) <| sv (vmB rfl) <| sng rfl <| sng rfl <| sv (vpkf rfl) <| sv (vmB rfl) <| sng rfl <| sng rfl <| sng rfl <| sng rfl <| sv (vpkf rfl) <| sv (vmB rfl) <| sng rfl <| sng rfl <| sng rfl <| sng rfl <| sv (vpkf rfl) <| sv (vaB rfl) <| WL.nil <| WX.mid () trivial ⟨bF (by first | omega | simp_all | grind), trivial⟩ trivial (fun _ h => Sb.own (by repeat' (first | with_reducible exact Sb.all | exact Sb.nil | (apply Sb.cons; focus (first | ((repeat (first | with_reducible exact Tk.here | with_reducible apply Tk.there)); done) | ((repeat (first | exact Tk.here | apply Tk.there)); done))) | apply Sb.drop)) h)
    exact WC.ret <| WX.ret1 rfl (()) (trivial) rfl (fun _ h => Sb.own (by repeat' (first | with_reducible exact Sb.all | exact Sb.nil | (apply Sb.cons; focus (first | ((repeat (first | with_reducible exact Tk.here | with_reducible apply Tk.there)); done) | ((repeat (first | exact Tk.here | apply Tk.there)); done))) | apply Sb.drop)) h)
end Go.Proofs.Ytigjompojlhomaa
end
section
set_option linter.unusedVariables false
set_option linter.unusedSimpArgs false
set_option maxRecDepth 4000
namespace Go.Proofs.Ytigjompojlhomaa
open Go.Sl Go.RowKit Go.Raft Go.Journal Go.Pack Go.Council

abbrev OV := (Int × Int × Int × Int × Unit) × Bool × ByteArray × Unit
abbrev OV.k (a : OV) : Int := a.1.1
abbrev OV.i (a : OV) : Int := a.1.2.1
abbrev OV.n (a : OV) : Int := a.1.2.2.1
abbrev OV.keep (a : OV) : Int := a.1.2.2.2.1
abbrev OV.prop (a : OV) : Bool := a.2.1
abbrev OV.data (a : OV) : ByteArray := a.2.2.1
abbrev ocel (k i n keep : Int) (b : Bool) (d : ByteArray) : List Value := [.int .i64 k, .int .i64 i, .int .i64 n, .int .i64 keep, .bool b, .string d]
abbrev cellO (a : OV) : List Value := ocel a.1.1 a.1.2.1 a.1.2.2.1 a.1.2.2.2.1 a.2.1 a.2.2.1
def I64 (x : Int) : Prop := -9223372036854775808 ≤ x ∧ x ≤ 9223372036854775807
abbrev gO (a : OV) : Prop := I64 a.i ∧ I64 a.n
theorem rd_someO {w0 w : World} {A : List HProp} {base : Option Addr} {vs : List Value} (hp : 0 < vs.length) (hR : RdC w0 A base vs) (h : Own w0 A w) : base.isSome = true := by
  obtain ⟨a, rfl, _⟩ := hR w h 0 vs[0] (List.getElem?_eq_getElem hp)
  rfl
theorem law_small20 {w0 : World} {A : List HProp} {o : Sla OV} {most : Int} (hmo : most ≤ 9223372036854775807) (ho : Rd w0 o.base (o.xs.flatMap cellO)) :
    Fun Try.prog w0 7 [.slice o.base o.xs.length o.cap, .int .i64 most] A (Ret w0 (fun _ : Unit => True) (fun _ => .bool (decide ((o.xs.length : Int) ≤ most ∧ ∀ a ∈ o.xs, a.data.size ≤ 5000))) (fun _ => A)) := by
  have hfl : (o.xs.flatMap cellO).length = o.xs.length * 6 := flat_len (fun _ _ => rfl)
  refine Fun.enter Try.func7 rfl Try.ntmps7 rfl ?_
  refine WC.seq <| WC.region <| sv (vaB rfl) <| WL.nil <| WX.thenN <| WC.seq <| WC.seq <| WC.region <| sv (vmS rfl) <| sv (vlen Try.underlying22 rfl) <| sv (vmI rfl) <| sv (vgt rfl rfl) <| WL.nil <| WX.thenN <| ?_
  refine WC.ite rfl (fun h1 => ?_) (fun h1 => ?_)
  · -- then
    exact WC.seq <| WC.region <| sv (vaB rfl) <| WL.nil <| WX.thenN <| WC.ret <| WX.thenR <| WX.ret1 rfl (()) (trivial) (bF (fun h => by omega)) (fun _ h => Sb.own (by repeat' (first | with_reducible exact Sb.all | exact Sb.nil | (apply Sb.cons; focus (first | ((repeat (first | with_reducible exact Tk.here | with_reducible apply Tk.there)); done) | ((repeat (first | exact Tk.here | apply Tk.there)); done))) | apply Sb.drop)) h)
  · -- else
    refine WC.skip <| WX.thenN <| WC.seq <| WC.seq <| WC.region <| sv (vaI rfl) <| WL.nil <| WX.thenN <| WC.block <| ?_
    refine WC.loopS (ι := Nat) (fun i => [(5, .int .i64 i)]) [(0, .slice _ _ _)] (fun i => i ≤ o.xs.length ∧ ∀ a ∈ o.xs.take i, a.data.size ≤ 5000) (fun i => o.xs.length - i) (0) (⟨Nat.zero_le _, fun a h => by rw [List.take_zero] at h; cases h⟩) ⟨rfl, trivial⟩ ⟨rfl, trivial⟩ ?_
    intro i hi ρh
    refine WC.seq <| WC.seq <| WC.region <| sv (vmI rfl) <| sv (vmS rfl) <| sv (vlen Try.underlying22 rfl) <| sv (vlt rfl rfl) <| WL.nil <| WX.thenN <| ?_
    refine WC.ite rfl (fun h2 => ?_) (fun h2 => ?_)
    · -- then
      have hil : i < o.xs.length := by omega
      obtain ⟨a, ha⟩ : ∃ a, o.xs[i]? = some a := ⟨_, List.getElem?_eq_getElem hil⟩
      have hpos : 0 < (o.xs.flatMap cellO).length := by omega
      have hf2 : (o.xs.flatMap cellO)[((i : Int)).toNat * 6 + 5]? = some (.string a.data) := by rw [Int.toNat_natCast, flat_at (f := cellO) (s := 6) (fun _ _ => rfl) hil (by omega), (List.getElem?_eq_some_iff.1 ha).2]; rfl
      have hRi : Reads w0 A o.base (o.xs.flatMap cellO) := ⟨RdC.old ho⟩
      refine WC.known (fun w h => rd_someO hpos hRi.rd h) fun hb => ?_
      refine WC.skip <| WX.thenN <| WC.seq <| WC.block <| WC.seq <| WC.region <| sv (vmS rfl) <| sv (vmI rfl) <| sv (vix Try.underlying22 sz39 rfl rfl (by omega) (by omega) reads (hpos)) <| sv (vfldr (hb) fl39f2 rfl) <| sv (vldo pl9 rfl reads (hf2)) <| sv (vlens Try.underlying9 rfl) <| sv (vgt rfl rfl) <| WL.nil <| WX.thenN <| ?_
      refine WC.ite rfl (fun h3 => ?_) (fun h3 => ?_)
      · -- then
        exact WC.seq <| WC.region <| sv (vaB rfl) <| WL.nil <| WX.thenN <| WC.ret <| WX.blockR <| WX.thenR <| WX.thenR <| WX.blockR <| WX.thenR <| WX.ret1 rfl (()) (trivial) (bF (fun h => by have := h.2 a (List.mem_of_getElem? ha); omega)) (fun _ h => Sb.own (by repeat' (first | with_reducible exact Sb.all | exact Sb.nil | (apply Sb.cons; focus (first | ((repeat (first | with_reducible exact Tk.here | with_reducible apply Tk.there)); done) | ((repeat (first | exact Tk.here | apply Tk.there)); done))) | apply Sb.drop)) h)
      · -- else
        exact WC.skip <| WX.blockN <| WX.thenN <| WC.region <| sv (vmI rfl) <| sv (vadd rfl rfl (by omega)) <| sv (vaI rfl) <| WL.nil <| WX.again (i + 1) (⟨by omega, fun c hc => by rw [List.take_add_one, ha] at hc; exact (List.mem_append.1 hc).elim (hi.2 c) (fun hc => by have : c = a := (by simpa using hc); subst this; omega)⟩) (by omega) ⟨rfl, trivial⟩ ⟨rfl, trivial⟩ (fun _ h => Sb.own (by repeat' (first | with_reducible exact Sb.all | exact Sb.nil | (apply Sb.cons; focus (first | ((repeat (first | with_reducible exact Tk.here | with_reducible apply Tk.there)); done) | ((repeat (first | exact Tk.here | apply Tk.there)); done))) | apply Sb.drop)) h)
    · -- else
      exact WC.exit <| WX.thenE <| WX.thenE <| WX.blockH <| WX.thenN <| WC.seq <| WC.region <| sv (vaB rfl) <| WL.nil <| WX.thenN <| WC.ret <| WX.ret1 rfl (()) (trivial) (bT ⟨by omega, by have := hi.2; rwa [List.take_of_length_le (by omega)] at this⟩) (fun _ h => Sb.own (by repeat' (first | with_reducible exact Sb.all | exact Sb.nil | (apply Sb.cons; focus (first | ((repeat (first | with_reducible exact Tk.here | with_reducible apply Tk.there)); done) | ((repeat (first | exact Tk.here | apply Tk.there)); done))) | apply Sb.drop)) h)
def countC (c n : Int) : Int := (if c < 0 then -(c + 1) else c) % n
theorem count_bound {c n : Int} (h : 1 ≤ n) : 0 ≤ countC c n ∧ countC c n < n := ⟨Int.emod_nonneg _ (by omega), Int.emod_lt_of_pos _ (by omega)⟩
theorem law_count {w0 : World} {A : List HProp} {c n : Int} (hn : 1 ≤ n ∧ n ≤ 9223372036854775807) (hc : I64 c) :
    Fun Try.prog w0 8 [.int .i64 c, .int .i64 n] A (Ret w0 (fun _ : Unit => True) (fun _ => .int .i64 (countC c n)) (fun _ => A)) := by
  unfold I64 at hc
  refine Fun.enter Try.func8 rfl Try.ntmps8 rfl ?_
  refine WC.seq <| WC.region <| sv (vaI rfl) <| WL.nil <| WX.thenN <| ?_
  refine WC.cutvS (ι := Unit) (fun i => [(0, .int .i64 (if c < 0 then -(c + 1) else c))]) [(1, .int _ _)] (fun i => True) ⟨rfl, trivial⟩ ?_ ?_
  · -- up to the join
    refine WC.seq <| WC.region <| sv (vmI rfl) <| sv (vlt rfl rfl) <| WL.nil <| WX.thenN <| ?_
    refine WC.ite rfl (fun h1 => ?_) (fun h1 => ?_)
    · -- then
      exact WC.region <| sv (vmI rfl) <| sv (vadd rfl rfl (by omega)) <| sv (vneg rfl) <| sv (vaI rfl) <| WL.nil <| WX.mid (()) (trivial) ⟨iv (by rw [if_pos h1]; show IntKind.i64.wrap (0 - (c + 1)) = -(c + 1); rw [wrap64_in (by omega)]; omega), trivial⟩ ⟨rfl, trivial⟩ (fun _ h => Sb.own (by repeat' (first | with_reducible exact Sb.all | exact Sb.nil | (apply Sb.cons; focus (first | ((repeat (first | with_reducible exact Tk.here | with_reducible apply Tk.there)); done) | ((repeat (first | exact Tk.here | apply Tk.there)); done))) | apply Sb.drop)) h)
    · -- else
      exact WC.skip <| WX.mid (()) (trivial) ⟨iv (by rw [if_neg h1]), trivial⟩ ⟨rfl, trivial⟩ (fun _ h => Sb.own (by repeat' (first | with_reducible exact Sb.all | exact Sb.nil | (apply Sb.cons; focus (first | ((repeat (first | with_reducible exact Tk.here | with_reducible apply Tk.there)); done) | ((repeat (first | exact Tk.here | apply Tk.there)); done))) | apply Sb.drop)) h)
  · -- behind the join
    intro i hi ρh
    exact WC.seq <| WC.region <| sv (vmI rfl) <| sv (vmI rfl) <| sv (vw (v' := .int .i64 (countC c n)) (vrem rfl rfl (by omega)) (iv (by unfold countC; split <;> exact (by rw [Int.tmod_eq_emod_of_nonneg (by omega)])))) <| sv (vaI rfl) <| WL.nil <| WX.thenN <| WC.ret <| WX.ret1 rfl (()) (trivial) rfl (fun _ h => Sb.own (by repeat' (first | with_reducible exact Sb.all | exact Sb.nil | (apply Sb.cons; focus (first | ((repeat (first | with_reducible exact Tk.here | with_reducible apply Tk.there)); done) | ((repeat (first | exact Tk.here | apply Tk.there)); done))) | apply Sb.drop)) h)
abbrev pB : ByteArray := ⟨#[112]⟩
def placeC (a : OV) (S : CS) : Int := if a.k = 5 then a.n else if S.mails.length = 0 then a.n else countC a.n S.mails.length
/-- a raw act -/
def actO (n : Nat) (a : OV) (S : CS) : CS := if a.prop = true then (propC (1 + countC a.i n) pB S).1 else (actC a.k (1 + countC a.i n) (placeC a S) a.keep S).1
theorem place_le {a : OV} {S : CS} (h : I64 a.n) (hm : S.mails.length ≤ 256) : placeC a S ≤ 9223372036854775807 := by
  unfold placeC
  split
  · exact h.2
  · split
    · exact h.2
    · have := (count_bound (c := a.n) (n := (S.mails.length : Int)) (by omega)).2
      omega
theorem _root_.Go.Council.CI.actO {K : Nat} {S : CS} {g : Gh} {n : Nat} {a : OV} (h : CI K S g) (hK : K ≤ 505) (ha : I64 a.n) : ∃ g', Ext g g' ∧ CI (K + 1) (actO n a S) g' := by
  unfold Proofs.Ytigjompojlhomaa.actO
  split
  · exact h.prop hK
  · exact h.act hK (place_le ha h.mails)
theorem Few_actO {S : CS} {n : Nat} {a : OV} (h : Few S) : Few (actO n a S) := by
  unfold actO
  split
  · exact h.prop
  · exact h.act
theorem law_act {w0 : World} {A : List HProp} {p K : Nat} {S : CS} {g : Gh} {n : Nat} {k i m keep : Int} {b : Bool} {d : ByteArray} (h : CI K S g) (hf : Few S) (hK : K ≤ 505) (hn : 1 ≤ n ∧ n ≤ 5) (hi : I64 i) (hm : I64 m) :
    Fun Try.prog w0 10 [.pointer (some ⟨p, 0, none⟩), .int .i64 (n : Int), .agg (ocel k i m keep b d).toArray] (hc p S :: A) (Ret w0 (fun _ : Unit => True) (fun _ => .tuple #[]) (fun _ => hc p (actO n ((k, i, m, keep, ()), b, d, ()) S) :: A)) := by
  have hcb := count_bound (c := i) (n := (n : Int)) (by omega)
  have hml := h.mails
  have hcl : ∀ m ∈ S.mails, m.cells.length ≤ 1099511627776 := fun m hm => Nat.le_trans (hf m hm) (by decide)
  obtain ⟨pl, hpl⟩ : ∃ pl, pl = placeC ((k, i, m, keep, ()), b, d, ()) S := ⟨_, rfl⟩
  have hple : pl ≤ 9223372036854775807 := by rw [hpl]; exact place_le (a := ((k, i, m, keep, ()), b, d, ())) hm hml
  refine Fun.enter Try.func10 rfl Try.ntmps10 rfl ?_
  refine WC.seq <| WC.region <| bxc (v := .agg _) (cs := [.int _ _, .int _ _, .int _ _, .int _ _, .bool _, .string _]) rfl rfl fun b1 => WL.nil <| WX.thenN <| WC.seq <| WC.region <| sv (vfldpz fl39f0 rfl) <| sv (vldap ag37 sz37 rfl (cs := [.int .i64 k, .int .i64 i, .int .i64 m, .int .i64 keep]) rfl rfl (by decide)) <| alz (cs := [.int .i64 0, .int .i64 0, .int .i64 0, .int .i64 0]) zt37 (by rfl) fun b3 => stAp sz37 rfl rfl rfl (by intro v hv; simp only [List.mem_cons, List.not_mem_nil, or_false] at hv; rcases hv with rfl | rfl | rfl | rfl <;> rfl) rfl <| WL.nil <| WX.thenN <| WC.seq <| WC.region <| sv (vfldp fl37f1 rfl) <| sv (vldc pl3 rfl) <| sv (vmI rfl) <| clx (by repeat' (first | with_reducible exact Sb.all | exact Sb.nil | (apply Sb.cons; focus (first | ((repeat (first | with_reducible exact Tk.here | with_reducible apply Tk.there)); done) | ((repeat (first | exact Tk.here | apply Tk.there)); done))) | apply Sb.drop)) (law_count (by omega) hi) ct8 rfl fun r6 hr6 => ?_
  refine sv (vadd rfl rfl (by omega)) <| sv (vfldp fl37f1 rfl) <| stp (v := .int _ _) pl3 sz3 rfl rfl rfl <| WL.nil <| WX.thenN <| WC.seq <| WC.region <| sv (vmP rfl) <| clx (by repeat' (first | with_reducible exact Sb.all | exact Sb.nil | (apply Sb.cons; focus (first | ((repeat (first | with_reducible exact Tk.here | with_reducible apply Tk.there)); done) | ((repeat (first | exact Tk.here | apply Tk.there)); done))) | apply Sb.drop)) (c_mails hml hcl) ct22 rfl fun r9 hr9 => ?_
  have h9l : r9.2.2.length = S.mails.length := by have := congrArg List.length hr9.1; rwa [List.length_map] at this
  obtain ⟨n1, hn1⟩ : ∃ n1, n1 = if S.mails.length = 0 then m else countC m S.mails.length := ⟨_, rfl⟩
  refine sv (vlen Try.underlying50 rfl) <| sv (vaI rfl) <| WL.nil <| WX.thenN <| ?_
  refine WC.cutv (ι := Unit) (fun u => []) [(0, .pointer _), (5, .pointer _), (6, .pointer _)] (fun u => cel b3 [.int .i64 k, .int .i64 (1 + countC i n), .int .i64 n1, .int .i64 keep] 37 :: cel b1 (ocel k i m keep b d) 39 :: hc p S :: A) (fun u => True) ⟨rfl, rfl, rfl, trivial⟩ ?_ ?_
  · -- up to the join
    refine WC.seq <| WC.region <| sv (vmI rfl) <| sv (vgt rfl rfl) <| WL.nil <| WX.thenN <| ?_
    refine WC.ite rfl (fun h1 => ?_) (fun h1 => ?_)
    · -- then
      refine WC.region <| sv (vfldp fl37f2 rfl) <| sv (vldc pl3 rfl) <| sv (vmI rfl) <| clx (by repeat' (first | with_reducible exact Sb.all | exact Sb.nil | (apply Sb.cons; focus (first | ((repeat (first | with_reducible exact Tk.here | with_reducible apply Tk.there)); done) | ((repeat (first | exact Tk.here | apply Tk.there)); done))) | apply Sb.drop)) (law_count (by omega) hm) ct8 rfl fun r11 hr11 => ?_
      exact sv (vfldp fl37f2 rfl) <| stp (v := .int _ _) pl3 sz3 rfl rfl rfl <| WL.nil <| WX.mid (()) (trivial) trivial ⟨rfl, rfl, rfl, trivial⟩ (fun w h => by rw [hn1, if_neg (by omega), ← h9l]; exact Sb.own (by repeat' (first | with_reducible exact Sb.all | exact Sb.nil | (apply Sb.cons; focus (first | ((repeat (first | with_reducible exact Tk.here | with_reducible apply Tk.there)); done) | ((repeat (first | exact Tk.here | apply Tk.there)); done))) | apply Sb.drop)) h)
    · -- else
      exact WC.skip <| WX.mid (()) (trivial) trivial ⟨rfl, rfl, rfl, trivial⟩ (fun w h => by rw [hn1, if_pos (by omega)]; exact Sb.own (by repeat' (first | with_reducible exact Sb.all | exact Sb.nil | (apply Sb.cons; focus (first | ((repeat (first | with_reducible exact Tk.here | with_reducible apply Tk.there)); done) | ((repeat (first | exact Tk.here | apply Tk.there)); done))) | apply Sb.drop)) h)
  · -- behind the join
    intro _ _ ρh
    refine WC.cutv (ι := Unit) (fun u => []) [(0, .pointer _), (5, .pointer _), (6, .pointer _)] (fun u => cel b3 [.int .i64 k, .int .i64 (1 + countC i n), .int .i64 pl, .int .i64 keep] 37 :: cel b1 (ocel k i m keep b d) 39 :: hc p S :: A) (fun u => True) ⟨rfl, rfl, rfl, trivial⟩ ?_ ?_
    · -- up to the join
      refine WC.seq <| WC.region <| sv (vfldpz fl39f0 rfl) <| sv (vfldpz fl37f0 rfl) <| sv (vldc pl3 rfl) <| sv (veq rfl rfl) <| WL.nil <| WX.thenN <| ?_
      refine WC.ite rfl (fun h2 => ?_) (fun h2 => ?_)
      · -- then
        exact WC.region <| sv (vfldpz fl39f0 rfl) <| sv (vfldp fl37f2 rfl) <| sv (vldc pl3 rfl) <| sv (vfldp fl37f2 rfl) <| stp (v := .int _ _) pl3 sz3 rfl rfl rfl <| WL.nil <| WX.mid (()) (trivial) trivial ⟨rfl, rfl, rfl, trivial⟩ (fun w h => by rw [hpl, placeC, if_pos h2]; exact Sb.own (by repeat' (first | with_reducible exact Sb.all | exact Sb.nil | (apply Sb.cons; focus (first | ((repeat (first | with_reducible exact Tk.here | with_reducible apply Tk.there)); done) | ((repeat (first | exact Tk.here | apply Tk.there)); done))) | apply Sb.drop)) h)
      · -- else
        exact WC.skip <| WX.mid (()) (trivial) trivial ⟨rfl, rfl, rfl, trivial⟩ (fun w h => by rw [hpl, placeC, if_neg h2, ← hn1]; exact Sb.own (by repeat' (first | with_reducible exact Sb.all | exact Sb.nil | (apply Sb.cons; focus (first | ((repeat (first | with_reducible exact Tk.here | with_reducible apply Tk.there)); done) | ((repeat (first | exact Tk.here | apply Tk.there)); done))) | apply Sb.drop)) h)
    · -- behind the join
      intro _ _ ρh
      refine WC.seq <| WC.seq <| WC.region <| sv (vfldp fl39f1 rfl) <| sv (vldc pl4 rfl) <| WL.nil <| WX.thenN <| ?_
      refine WC.iteb rfl (fun h3 => ?_) (fun h3 => ?_)
      · -- then
        have ho : actO n ((k, i, m, keep, ()), b, d, ()) S = (propC (1 + countC i n) pB S).1 := if_pos h3
        rw [ho]
        refine WC.seq <| WC.region <| sv (vmP rfl) <| sv (vfldp fl37f1 rfl) <| sv (vldc pl3 rfl) <| clx (by repeat' (first | with_reducible exact Sb.all | exact Sb.nil | (apply Sb.cons; focus (first | ((repeat (first | with_reducible exact Tk.here | with_reducible apply Tk.there)); done) | ((repeat (first | exact Tk.here | apply Tk.there)); done))) | apply Sb.drop)) (c_propose h.co hK) ct20 rfl fun r18 hr18 => ?_
        exact WL.nil <| WX.thenN <| WC.ret <| WX.thenR <| WX.ret0 rfl (()) (trivial) rfl (fun _ h => Sb.own (by repeat' (first | with_reducible exact Sb.all | exact Sb.nil | (apply Sb.cons; focus (first | ((repeat (first | with_reducible exact Tk.here | with_reducible apply Tk.there)); done) | ((repeat (first | exact Tk.here | apply Tk.there)); done))) | apply Sb.drop)) h)
      · -- else
        have ho : actO n ((k, i, m, keep, ()), b, d, ()) S = (actC k (1 + countC i n) pl keep S).1 := by rw [hpl]; exact if_neg (by rw [h3]; exact fun h => by cases h)
        rw [ho]
        refine WC.skip <| WX.thenN <| WC.region <| sv (vmP rfl) <| sv (vldac ag37 sz37 rfl rfl (by decide)) <| clx (by repeat' (first | with_reducible exact Sb.all | exact Sb.nil | (apply Sb.cons; focus (first | ((repeat (first | with_reducible exact Tk.here | with_reducible apply Tk.there)); done) | ((repeat (first | exact Tk.here | apply Tk.there)); done))) | apply Sb.drop)) (c_do h.co hf hK hple) ct16 rfl fun r20 hr20 => ?_
        exact WL.nil <| WX.end0 rfl (()) (trivial) rfl (fun _ h => Sb.own (by repeat' (first | with_reducible exact Sb.all | exact Sb.nil | (apply Sb.cons; focus (first | ((repeat (first | with_reducible exact Tk.here | with_reducible apply Tk.there)); done) | ((repeat (first | exact Tk.here | apply Tk.there)); done))) | apply Sb.drop)) h)
end Go.Proofs.Ytigjompojlhomaa
end
section
set_option linter.unusedVariables false
set_option linter.unusedSimpArgs false
set_option maxRecDepth 4000
namespace Go.Proofs.Ytigjompojlhomaa
open Go.Sl Go.RowKit Go.Raft Go.Journal Go.Pack Go.Council

def ldC (l : List (Int × Int)) : List Value := l.flatMap fun q => [.int .i64 q.1, .int .i64 q.2]
theorem ldC_length (l : List (Int × Int)) : (ldC l).length = l.length * 2 := flat_len (fun _ _ => rfl)
theorem ldC_at {l : List (Int × Int)} {i k : Nat} {e : Int × Int} (h : l[i]? = some e) (hk : k < 2) : (ldC l)[i * 2 + k]? = ([Value.int .i64 e.1, .int .i64 e.2] : List Value)[k]? := by
  unfold ldC
  obtain ⟨h1, h2⟩ := List.getElem?_eq_some_iff.1 h
  rw [flat_at (s := 2) (fun _ _ => rfl) h1 hk, h2]
theorem ldC_snoc (l : List (Int × Int)) (e : Int × Int) : ldC (l ++ [e]) = ldC l ++ [.int .i64 e.1, .int .i64 e.2] := by simp [ldC]
theorem i64C_at {l : List Int} {i : Nat} {v : Int} (h : l[i]? = some v) : (i64s l)[i]? = some (.int .i64 v) := by simp [i64s, h]
/-- what is watched, and where it is -/
structure WS where
  led : List (Int × Int)
  done : List Cl
  seen : List Int
structure WB where
  gb : Option Addr
  gc : Nat
  db : Option Addr
  dc : Nat
  sb : Option Addr
  sc : Nat
structure WOk (s : WS) (b : WB) : Prop where
  g : s.led.length ≤ b.gc
  d : s.done.length ≤ b.dc
  s : s.seen.length ≤ b.sc
abbrev wcel (s : WS) (b : WB) : List Value := [.slice b.gb s.led.length b.gc, .slice b.db s.done.length b.dc, .slice b.sb s.seen.length b.sc]
abbrev wL (p : Nat) (s : WS) (b : WB) (A : List HProp) : List HProp := cel p (wcel s b) 34 :: row b.gb b.gc 2 100 (ldC s.led) :: row b.db b.dc 2 69 (cvs s.done) :: row b.sb b.sc 1 3 (i64s s.seen) :: A
def hw (p : Nat) (s : WS) : HProp := fun h => ∃ b, WOk s b ∧ Sl.seps (wL p s b []) h
theorem hw_open {w0 w : World} {p : Nat} {s : WS} {A : List HProp} (H : Own w0 (hw p s :: A) w) : ∃ b, WOk s b ∧ Own w0 (wL p s b A) w := by
  obtain ⟨hb, h, ⟨h1, h2, ⟨b, hw, a⟩, a2, dd, y⟩, hw'⟩ := H
  exact ⟨b, hw, sepsO (l := wL p s b []) ⟨hb, h, ⟨h1, h2, a, a2, dd, y⟩, hw'⟩⟩
theorem hw_mk {w0 w : World} {p : Nat} {s : WS} {b : WB} {A : List HProp} (hk : WOk s b) (H : Own w0 (wL p s b A) w) : Own w0 (hw p s :: A) w := (sepsI (l := wL p s b []) H).head fun _ h => ⟨b, hk, h⟩
theorem watch_led {w0 : World} {R : List HProp} {p lc : Nat} {lb : Option Addr} {s : WS} {t who : Int} {log : List Cl} [hR : Reads w0 R lb (cvs log)] (hle : ∀ e ∈ s.led, e.1 = t → e.2 = who) (hlen : s.seen.length = s.done.length) (hd : ∀ (k : Nat) (c : Cl) (v : Int), s.done[k]? = some c → s.seen[k]? = some v → v < t → log[k]? = some c) (hll : log.length ≤ 1099511627776) (hg : s.led.length ≤ 1000000) (hdl : s.done.length ≤ 1000000) :
    Fun Try.prog w0 25 [.pointer (some ⟨p, 0, none⟩), .int .i64 t, .int .i64 who, .slice lb log.length lc] (hw p s :: R) (Ret w0 (fun _ : Unit => True) (fun _ => .bool true) (fun _ => hw p { s with led := s.led ++ [(t, who)] } :: R)) := by
  refine Fun.ex (fun w h => hw_open h) ?_
  intro b hb
  have hlg := ldC_length s.led
  have hld := cvs_length s.done
  have hlo := cvs_length log
  refine Fun.enter Try.func25 rfl Try.ntmps25 rfl ?_
  refine WC.seq <| WC.region <| sv (vaB rfl) <| WL.nil <| WX.thenN <| WC.seq <| WC.seq <| WC.region <| sv (vaI rfl) <| WL.nil <| WX.thenN <| WC.block <| ?_
  refine WC.loopS (ι := Nat) (fun i => [(9, .int .i64 i)]) [(0, .pointer _), (1, .int _ _), (2, .int _ _), (3, .slice _ _ _)] (fun i => i ≤ s.led.length) (fun i => s.led.length - i) (0) (by omega) ⟨rfl, trivial⟩ ⟨rfl, rfl, rfl, rfl, trivial⟩ ?_
  intro i hi ρh
  refine WC.seq <| WC.seq <| WC.region <| sv (vmI rfl) <| sv (vmP rfl) <| sv (vnil rfl) <| sv (vfldpz fl34f0 rfl) <| sv (vldc pl30 rfl) <| sv (vlen Try.underlying30 rfl) <| sv (vlt rfl rfl) <| WL.nil <| WX.thenN <| ?_
  refine WC.ite rfl (fun h1 => ?_) (fun h1 => ?_)
  · -- then
    have hil : i < s.led.length := by omega
    obtain ⟨e, he⟩ : ∃ e, s.led[i]? = some e := ⟨_, List.getElem?_eq_getElem hil⟩
    have hpos : 0 < (ldC s.led).length := by omega
    refine WC.known (fun w h => rsome (base := b.gb) hpos (RdC.of_row (c := b.gc) (s := 2) (e := 100) (by simp)) h) fun hb0 => ?_
    have hf0 : (ldC s.led)[((i : Int)).toNat * 2 + ((0 : Int)).toNat]? = some (.int .i64 e.1) := by rw [Int.toNat_natCast]; exact ldC_at he (by decide)
    have hf1 : (ldC s.led)[((i : Int)).toNat * 2 + ((1 : Int)).toNat]? = some (.int .i64 e.2) := by rw [Int.toNat_natCast]; exact ldC_at he (by decide)
    refine WC.skip <| WX.thenN <| WC.seq <| WC.block <| ?_
    refine WC.cutS [(41, .bool (decide (e.1 = t ∧ e.2 ≠ who)))] [(0, .pointer _), (1, .int _ _), (2, .int _ _), (3, .slice _ _ _), (9, .int _ _)] ⟨rfl, rfl, rfl, rfl, rfl, trivial⟩ ?_ fun ρh => ?_
    · -- law.go:149
      refine WC.region <| sv (vmP rfl) <| sv (vnil rfl) <| sv (vfldpz fl34f0 rfl) <| sv (vldc pl30 rfl) <| sv (vmI rfl) <| sv (vix Try.underlying30 sz100 rfl rfl (by omega) (by omega) (RdC.of_row (c := b.gc) (s := 2) (e := 100) (vs := ldC s.led) (by simp)) (by omega)) <| sv (vixar hb0 Try.underlying100 sz3 rfl rfl (by decide) (by decide)) <| sv (vldo pl3 rfl (RdC.of_row (c := b.gc) (s := 2) (e := 100) (vs := ldC s.led) (by simp)) hf0) <| sv (vmI rfl) <| svs (veq rfl rfl) (fun q1 => ?_) (fun q1 => ?_)
      ·
        exact sv (vmB rfl) <| svg rfl (vmP rfl) <| svg rfl (vnil rfl) <| svg rfl (vfldpz fl34f0 rfl) <| svg rfl (vldc pl30 rfl) <| svg rfl (vmI rfl) <| svg rfl (vix Try.underlying30 sz100 rfl rfl (by omega) (by omega) (RdC.of_row (c := b.gc) (s := 2) (e := 100) (vs := ldC s.led) (by simp)) (by omega)) <| svg rfl (vixar hb0 Try.underlying100 sz3 rfl rfl (by decide) (by decide)) <| svg rfl (vldo pl3 rfl (RdC.of_row (c := b.gc) (s := 2) (e := 100) (vs := ldC s.led) (by simp)) hf1) <| svg rfl (vmI rfl) <| svg rfl (vne rfl rfl) <| sv (vpkt rfl) <| WL.nil <| WX.mid () trivial ⟨bI (by first | omega | simp_all | grind), trivial⟩ ⟨rfl, rfl, rfl, rfl, rfl, trivial⟩ (fun _ h => Sb.own (by repeat' (first | with_reducible exact Sb.all | exact Sb.nil | (apply Sb.cons; focus (first | ((repeat (first | with_reducible exact Tk.here | with_reducible apply Tk.there)); done) | ((repeat (first | exact Tk.here | apply Tk.there)); done))) | apply Sb.drop)) h)
      ·
        exact sv (vmB rfl) <| sng rfl <| sng rfl <| sng rfl <| sng rfl <| sng rfl <| sng rfl <| sng rfl <| sng rfl <| sng rfl <| sng rfl <| sv (vpkf rfl) <| WL.nil <| WX.mid () trivial ⟨bF (by first | omega | simp_all | grind), trivial⟩ ⟨rfl, rfl, rfl, rfl, rfl, trivial⟩ (fun _ h => Sb.own (by repeat' (first | with_reducible exact Sb.all | exact Sb.nil | (apply Sb.cons; focus (first | ((repeat (first | with_reducible exact Tk.here | with_reducible apply Tk.there)); done) | ((repeat (first | exact Tk.here | apply Tk.there)); done))) | apply Sb.drop)) h)
    refine WC.ite rfl (fun h2 => ?_) (fun h2 => ?_)
    · -- then
      exact absurd (hle e (List.mem_of_getElem? he) h2.1) h2.2
    · -- else
      exact WC.skip <| WX.blockN <| WX.thenN <| WC.region <| sv (vmI rfl) <| sv (vadd rfl rfl (by omega)) <| sv (vaI rfl) <| WL.nil <| WX.again (i + 1) (by omega) (by omega) ⟨rfl, trivial⟩ ⟨rfl, rfl, rfl, rfl, trivial⟩ (fun _ h => Sb.own (by repeat' (first | with_reducible exact Sb.all | exact Sb.nil | (apply Sb.cons; focus (first | ((repeat (first | with_reducible exact Tk.here | with_reducible apply Tk.there)); done) | ((repeat (first | exact Tk.here | apply Tk.there)); done))) | apply Sb.drop)) h)
  · -- else
    refine WC.exit <| WX.thenE <| WX.thenE <| WX.blockH <| WX.thenN <| WC.seq <| WC.region <| sv (vmP rfl) <| sv (vmP rfl) <| sv (vnil rfl) <| sv (vfldpz fl34f0 rfl) <| sv (vldc pl30 rfl) <| sv (vmI rfl) <| sv (vmI rfl) <| sv (vbdR (ps := [(0, .int _ _), (1, .int _ _)]) (cs := [_, _]) Try.underlying100 sz3 zt100 rfl (by rfl)) <| pm (fun _ h => Sb.own (by repeat' (first | with_reducible exact Sb.all | exact Sb.nil | (apply Sb.cons; focus (first | ((repeat (first | with_reducible exact Tk.here | with_reducible apply Tk.there)); done) | ((repeat (first | exact Tk.here | apply Tk.there)); done))) | apply Sb.drop)) h) <| apA (v := .agg _) (cs := [.int .i64 t, .int .i64 who]) Try.underlying30 zt100 rfl (fun _ => rfl) (fun _ => rfl) rfl rfl rfl (by decide) (by decide) (by intro v hv; simp only [List.mem_cons, List.not_mem_nil, or_false] at hv; rcases hv with rfl | rfl <;> rfl) (by omega) (by simp only [maxLen]; omega) (by omega) fun _ base14 c14 hc14 => ?_
    refine sv (vnil rfl) <| sv (vfldpz fl34f0 rfl) <| stp (v := .slice _ _ _) pl30 sz30 rfl rfl rfl <| WL.nil <| WX.thenN <| WC.seq <| WC.seq <| WC.region <| sv (vaI rfl) <| WL.nil <| WX.thenN <| WC.block <| ?_
    refine WC.loopS (ι := Nat) (fun i => [(10, .int .i64 i)]) [(0, .pointer _), (1, .int _ _), (3, .slice _ _ _)] (fun i => i ≤ s.done.length) (fun i => s.done.length - i) (0) (by omega) ⟨rfl, trivial⟩ ⟨rfl, rfl, rfl, trivial⟩ ?_
    intro i hi ρh
    refine WC.seq <| WC.seq <| WC.region <| sv (vmI rfl) <| sv (vmP rfl) <| sv (vnil rfl) <| sv (vfldp fl34f1 rfl) <| sv (vldc pl31 rfl) <| sv (vlen Try.underlying31 rfl) <| sv (vlt rfl rfl) <| WL.nil <| WX.thenN <| ?_
    refine WC.ite rfl (fun h3 => ?_) (fun h3 => ?_)
    · -- then
      have hil : i < s.done.length := by omega
      obtain ⟨c, hc⟩ : ∃ c, s.done[i]? = some c := ⟨_, List.getElem?_eq_getElem hil⟩
      obtain ⟨v, hv⟩ : ∃ v, s.seen[i]? = some v := ⟨_, List.getElem?_eq_getElem (by omega)⟩
      have hlogk : v < t → log[i]? = some c := hd i c v hc hv
      have hpos : 0 < (cvs s.done).length := by omega
      have hfv : (i64s s.seen)[((i : Int)).toNat]? = some (.int .i64 v) := by rw [Int.toNat_natCast]; exact i64C_at hv
      have hagd : ((cvs s.done).drop (((i : Int)).toNat * 2)).take 2 = [.int .i64 c.term, .string c.data] := by rw [Int.toNat_natCast]; exact cvs_take2 hc
      have hagl : v < t → ((cvs log).drop (((i : Int)).toNat * 2)).take 2 = [.int .i64 c.term, .string c.data] := fun h => by rw [Int.toNat_natCast]; exact cvs_take2 (hlogk h)
      refine WC.skip <| WX.thenN <| WC.seq <| WC.block <| ?_
      refine WC.cutS [(91, .bool (decide (False)))] [(0, .pointer _), (1, .int _ _), (3, .slice _ _ _), (10, .int _ _)] ⟨rfl, rfl, rfl, rfl, trivial⟩ ?_ fun ρh => ?_
      · -- law.go:155
        refine WC.draws rfl (by kernel_rfl) <| qv (vmP rfl) <| qv (vnil rfl) <| qv (vfldp fl34f2 rfl) <| qv (vldc pl32 rfl) <| qv (vmI rfl) <| qv (vix1 Try.underlying32 sz3 rfl rfl (by omega) (by omega) (RdC.of_row (c := b.sc) (s := 1) (e := 3) (vs := i64s s.seen) (by simp)) (by simp only [i64s, List.length_map]; omega)) <| qv (vldo pl3 rfl (RdC.of_row (c := b.sc) (s := 1) (e := 3) (vs := i64s s.seen) (by simp)) hfv) <| qv (vmI rfl) <| qvs (vlt rfl rfl) (fun q2 => ?_) (fun q2 => ?_)
        ·
          refine qv (vmB rfl) <| qvg rfl (vmI rfl) <| qvg rfl (vmS rfl) <| qvg rfl (vlen Try.underlying31 rfl) <| qvsg rfl (vge rfl rfl) (fun q3 => ?_) (fun q3 => ?_)
          ·
            refine qvg rfl (vmB rfl) <| qng rfl <| qng rfl <| qng rfl <| qng rfl <| qng rfl <| qng rfl <| qng rfl <| qng rfl <| qng rfl <| qng rfl <| qng rfl <| qng rfl <| qvg rfl (vpkt rfl) <| qv (vpkt rfl) <| WQ.nil <| WX.mid () trivial ⟨bT (by have h9 := (List.getElem?_eq_some_iff.1 (hlogk (by omega))).1; omega), trivial⟩ ⟨rfl, rfl, rfl, rfl, trivial⟩ (fun _ h => Sb.own (by repeat' (first | with_reducible exact Sb.all | exact Sb.nil | (apply Sb.cons; focus (first | ((repeat (first | with_reducible exact Tk.here | with_reducible apply Tk.there)); done) | ((repeat (first | exact Tk.here | apply Tk.there)); done))) | apply Sb.drop)) h)
          ·
            exact qvg rfl (vmB rfl) <| qvg rfl (vmS rfl) <| qvg rfl (vmI rfl) <| qvg rfl (vix Try.underlying31 sz69 rfl rfl (by omega) (by omega) (reads (vs := cvs log)) (by omega)) <| qvg rfl (vlda ag69 sz69 rfl (reads (vs := cvs log)) (hagl (by omega)) rfl (by decide)) <| qvg rfl (vmP rfl) <| qvg rfl (vnil rfl) <| qvg rfl (vfldp fl34f1 rfl) <| qvg rfl (vldc pl31 rfl) <| qvg rfl (vmI rfl) <| qvg rfl (vix Try.underlying31 sz69 rfl rfl (by omega) (by omega) (RdC.of_row (c := b.dc) (s := 2) (e := 69) (vs := cvs s.done) (by simp)) (by omega)) <| qvg rfl (vlda ag69 sz69 rfl (RdC.of_row (c := b.dc) (s := 2) (e := 69) (vs := cvs s.done) (by simp)) hagd rfl (by decide)) <| qvg rfl (vneF eq69 rfl rfl (by simp [eqV])) <| qvg rfl (vpkf rfl) <| qv (vpkt rfl) <| WQ.nil <| WX.mid () trivial ⟨bF (by first | omega | simp_all | grind), trivial⟩ ⟨rfl, rfl, rfl, rfl, trivial⟩ (fun _ h => Sb.own (by repeat' (first | with_reducible exact Sb.all | exact Sb.nil | (apply Sb.cons; focus (first | ((repeat (first | with_reducible exact Tk.here | with_reducible apply Tk.there)); done) | ((repeat (first | exact Tk.here | apply Tk.there)); done))) | apply Sb.drop)) h)
        ·
          exact qv (vmB rfl) <| qng rfl <| qng rfl <| qng rfl <| qng rfl <| qng rfl <| qng rfl <| qng rfl <| qng rfl <| qng rfl <| qng rfl <| qng rfl <| qng rfl <| qng rfl <| qng rfl <| qng rfl <| qng rfl <| qng rfl <| qng rfl <| qv (vpkf rfl) <| WQ.nil <| WX.mid () trivial ⟨bF (by first | omega | simp_all | grind), trivial⟩ ⟨rfl, rfl, rfl, rfl, trivial⟩ (fun _ h => Sb.own (by repeat' (first | with_reducible exact Sb.all | exact Sb.nil | (apply Sb.cons; focus (first | ((repeat (first | with_reducible exact Tk.here | with_reducible apply Tk.there)); done) | ((repeat (first | exact Tk.here | apply Tk.there)); done))) | apply Sb.drop)) h)
      refine WC.ite rfl (fun h4 => ?_) (fun h4 => ?_)
      · -- then
        exact h4.elim
      · -- else
        exact WC.skip <| WX.blockN <| WX.thenN <| WC.region <| sv (vmI rfl) <| sv (vadd rfl rfl (by omega)) <| sv (vaI rfl) <| WL.nil <| WX.again (i + 1) (by omega) (by omega) ⟨rfl, trivial⟩ ⟨rfl, rfl, rfl, trivial⟩ (fun _ h => Sb.own (by repeat' (first | with_reducible exact Sb.all | exact Sb.nil | (apply Sb.cons; focus (first | ((repeat (first | with_reducible exact Tk.here | with_reducible apply Tk.there)); done) | ((repeat (first | exact Tk.here | apply Tk.there)); done))) | apply Sb.drop)) h)
    · -- else
      refine WC.exit <| WX.thenE <| WX.thenE <| WX.blockH <| WX.thenN <| WC.seq <| WC.region <| sv (vaB rfl) <| WL.nil <| WX.thenN <| WC.ret <| WX.ret1 rfl (()) (trivial) rfl (fun w h => ?_)
      refine hw_mk (s := { s with led := s.led ++ [(t, who)] }) (b := { b with gb := base14, gc := c14 }) ⟨by show (s.led ++ [(t, who)]).length ≤ c14; simp only [List.length_append, List.length_cons, List.length_nil]; omega, hb.d, hb.s⟩ ?_
      show Own w0 (cel p [.slice base14 (s.led ++ [(t, who)]).length c14, .slice b.db s.done.length b.dc, .slice b.sb s.seen.length b.sc] 34 :: row base14 c14 2 100 (ldC (s.led ++ [(t, who)])) :: row b.db b.dc 2 69 (cvs s.done) :: row b.sb b.sc 1 3 (i64s s.seen) :: R) w
      rw [ldC_snoc, show (s.led ++ [(t, who)]).length = s.led.length + 1 by simp]
      exact Sb.own (by repeat' (first | with_reducible exact Sb.all | exact Sb.nil | (apply Sb.cons; focus (first | ((repeat (first | with_reducible exact Tk.here | with_reducible apply Tk.there)); done) | ((repeat (first | exact Tk.here | apply Tk.there)); done))) | apply Sb.drop)) h
end Go.Proofs.Ytigjompojlhomaa
end
section
set_option linter.unusedVariables false
set_option linter.unusedSimpArgs false
set_option maxRecDepth 4000
namespace Go.Proofs.Ytigjompojlhomaa
open Go.Sl Go.RowKit Go.Raft Go.Journal Go.Pack Go.Council

theorem c_up {w0 : World} {A : List HProp} {p : Nat} {S : CS} {i : Int} (hl5 : S.ms.length ≤ 5) : Fun Try.prog w0 13 [.pointer (some ⟨p, 0, none⟩), .int .i64 i] (hc p S :: A) (Ret w0 (fun _ : Unit => True) (fun _ => .bool (nodeOf S i).isSome) (fun _ => hc p S :: A)) := by
  cases h : nodeOf S i with
  | none => exact c_up_none hl5 h
  | some x => exact c_up_some hl5 h
theorem node_ok {K : Nat} {S : CS} {g : Gh} {i : Int} {x : Rn} (h : CI K S g) (hx : nodeOf S i = some x) : NOk S.ms.length g i x := by
  obtain ⟨j, m, rfl, hj, hn⟩ := nodeOf_some hx
  exact (h.node hj hn).1
def ledW (s : WS) (i : Int) (x : Rn) : WS := if x.role = 2 then { s with led := s.led ++ [(x.term, i)] } else s
structure LkR (n : Int) (g : Gh) (s s' : WS) (i : Nat) : Prop where
  wi : WI n g s'.led s'.done s'.seen
  led : s'.led.length ≤ s.led.length + i
  done : s'.done.length ≤ 10000
structure LkI where
  k : Nat
  s : WS
  b : WB
structure LjR (n : Int) (g : Gh) (s2 : WS) (c : Int) (j : LkI) : Prop where
  k : (j.k : Int) ≤ c
  kd : j.k ≤ j.s.done.length
  wi : WI n g j.s.led j.s.done j.s.seen
  wb : WOk j.s j.b
  led : j.s.led = s2.led
  done : j.s.done.length ≤ 10000
theorem watch_look {w0 : World} {R : List HProp} {q p K : Nat} {S : CS} {g : Gh} {s : WS} {n : Int} (hn : n = S.ms.length) (h : CI K S g) (hs : WI n g s.led s.done s.seen) (hl : s.led.length ≤ 900000) (hd : s.done.length ≤ 10000) :
    Fun Try.prog w0 11 [.pointer (some ⟨q, 0, none⟩), .pointer (some ⟨p, 0, none⟩), .int .i64 n] (hw q s :: hc p S :: R) (Ret w0 (fun s' : WS => LkR n g s s' S.ms.length) (fun _ => .bool true) (fun s' => hw q s' :: hc p S :: R)) := by
  have hn5 := h.n
  have hgok := h.iok.gok
  rw [← hn] at hgok
  refine Fun.enter Try.func11 rfl Try.ntmps11 rfl ?_
  refine WC.seq <| WC.region <| sv (vaB rfl) <| WL.nil <| WX.thenN <| WC.seq <| WC.seq <| WC.region <| sv (vaI rfl) <| WL.nil <| WX.thenN <| WC.block <| ?_
  refine WC.loop (ι := Nat × WS) (fun i => [(7, .int .i64 ((i.1 : Int) + 1))]) [(0, .pointer _), (1, .pointer _), (2, .int _ _)] (fun i => hw q i.2 :: hc p S :: R) (fun i => LkR n g s i.2 i.1 ∧ i.1 ≤ S.ms.length) (fun i => S.ms.length - i.1) ((0, s)) (⟨⟨hs, Nat.le_refl _, hd⟩, Nat.zero_le _⟩) ⟨rfl, trivial⟩ ⟨rfl, rfl, rfl, trivial⟩ (fun _ h => Sb.own (by repeat' (first | with_reducible exact Sb.all | exact Sb.nil | (apply Sb.cons; focus (first | ((repeat (first | with_reducible exact Tk.here | with_reducible apply Tk.there)); done) | ((repeat (first | exact Tk.here | apply Tk.there)); done))) | apply Sb.drop)) h) ?_
  rintro ⟨i, s1⟩ ⟨hsa, hil0⟩ ρh
  dsimp only at hsa hil0 ⊢
  obtain ⟨h_w, h_l, h_d⟩ := hsa
  refine WC.seq <| WC.seq <| WC.region <| sv (vmI rfl) <| sv (vmI rfl) <| sv (vle rfl rfl) <| WL.nil <| WX.thenN <| ?_
  refine WC.ite rfl (fun h1 => ?_) (fun h1 => ?_)
  · -- then
    have hil : i < S.ms.length := by omega
    refine WC.skip <| WX.thenN <| WC.seq <| WC.block <| WC.seq <| WC.seq <| WC.region <| sv (vmP rfl) <| sv (vmI rfl) <| clx (by repeat' (first | with_reducible exact Sb.all | exact Sb.nil | (apply Sb.cons; focus (first | ((repeat (first | with_reducible exact Tk.here | with_reducible apply Tk.there)); done) | ((repeat (first | exact Tk.here | apply Tk.there)); done))) | apply Sb.drop)) (c_up (i := (i : Int) + 1) hn5.2) ct13 rfl fun r1 hr1 => ?_
    refine sv (vnot rfl) <| WL.nil <| WX.thenN <| ?_
    refine WC.iteb rfl (fun h2 => ?_) (fun h2 => ?_)
    · -- then
      exact WC.exit <| WX.thenE <| WX.blockH <| WX.thenN <| WC.region <| sv (vmI rfl) <| sv (vadd rfl rfl (by omega)) <| sv (vaI rfl) <| WL.nil <| WX.again ((i + 1, s1)) (⟨⟨h_w, by show s1.led.length ≤ s.led.length + (i + 1); omega, h_d⟩, by show i + 1 ≤ _; omega⟩) (by show S.ms.length - (i + 1) < S.ms.length - i; omega) ⟨iv (by push_cast; omega), trivial⟩ ⟨rfl, rfl, rfl, trivial⟩ (fun _ h => Sb.own (by repeat' (first | with_reducible exact Sb.all | exact Sb.nil | (apply Sb.cons; focus (first | ((repeat (first | with_reducible exact Tk.here | with_reducible apply Tk.there)); done) | ((repeat (first | exact Tk.here | apply Tk.there)); done))) | apply Sb.drop)) h)
    · -- else
      obtain ⟨x, hx⟩ : ∃ x, nodeOf S ((i : Int) + 1) = some x := Option.isSome_iff_exists.1 (by simpa using h2)
      have hnk := node_ok h hx
      rw [← hn] at hnk
      have hxi := hnk.inv
      have hxl := hxi.log
      have hxc := hxi.commit
      refine WC.skip <| WX.thenN <| WC.seq <| WC.region <| sv (vmP rfl) <| sv (vmI rfl) <| clx (by repeat' (first | with_reducible exact Sb.all | exact Sb.nil | (apply Sb.cons; focus (first | ((repeat (first | with_reducible exact Tk.here | with_reducible apply Tk.there)); done) | ((repeat (first | exact Tk.here | apply Tk.there)); done))) | apply Sb.drop)) (c_log_some hn5.2 hx hxi) ct15 rfl fun r2 hr2 => ?_
      refine sv (vaS rfl) <| WL.nil <| WX.thenN <| WC.seq <| WC.region <| sv (vmP rfl) <| sv (vmI rfl) <| clx (by repeat' (first | with_reducible exact Sb.all | exact Sb.nil | (apply Sb.cons; focus (first | ((repeat (first | with_reducible exact Tk.here | with_reducible apply Tk.there)); done) | ((repeat (first | exact Tk.here | apply Tk.there)); done))) | apply Sb.drop)) (c_commit_some hn5.2 hx) ct18 rfl fun r3 hr3 => ?_
      refine sv (vaI rfl) <| WL.nil <| WX.thenN <| WC.seq <| WC.region <| sv (vmP rfl) <| sv (vmI rfl) <| clx (by repeat' (first | with_reducible exact Sb.all | exact Sb.nil | (apply Sb.cons; focus (first | ((repeat (first | with_reducible exact Tk.here | with_reducible apply Tk.there)); done) | ((repeat (first | exact Tk.here | apply Tk.there)); done))) | apply Sb.drop)) (c_term_some hn5.2 hx hxi) ct14 rfl fun r4 hr4 => ?_
      refine sv (vaI rfl) <| WL.nil <| WX.thenN <| WC.seq <| ?_
      refine WC.cut0 [(47, .bool false)] [(0, .pointer _), (1, .pointer _), (2, .int _ _), (7, .int _ _), (8, .slice _ _ _), (9, .int _ _), (10, .int _ _)] (hw q (ledW s1 ((i : Int) + 1) x) :: hc p S :: row r2.1 r2.2 2 69 (cvs x.log) :: R) ⟨rfl, rfl, rfl, rfl, rfl, rfl, rfl, trivial⟩ ?_ fun ρh => ?_
      · -- law.go:130
        refine WC.region <| sv (vmI rfl) <| sv (vmS rfl) <| sv (vlen Try.underlying31 rfl) <| sv (vF (vgt rfl rfl) (by omega)) <| sv (vmB rfl) <| svg rfl (vmP rfl) <| svg rfl (vmI rfl) <| gy rfl <| clx (by repeat' (first | with_reducible exact Sb.all | exact Sb.nil | (apply Sb.cons; focus (first | ((repeat (first | with_reducible exact Tk.here | with_reducible apply Tk.there)); done) | ((repeat (first | exact Tk.here | apply Tk.there)); done))) | apply Sb.drop)) (c_role_some hn5.2 hx) ct17 rfl fun r5 hr5 => ?_
        refine svsg rfl (veq rfl rfl) (fun q1 => ?_) (fun q1 => ?_)
        ·
          refine svg rfl (vmB rfl) <| svg rfl (vmP rfl) <| svg rfl (vmI rfl) <| svg rfl (vmI rfl) <| svg rfl (vmS rfl) <| gy rfl <| clx (by repeat' (first | with_reducible exact Sb.all | exact Sb.nil | (apply Sb.cons; focus (first | ((repeat (first | with_reducible exact Tk.here | with_reducible apply Tk.there)); done) | ((repeat (first | exact Tk.here | apply Tk.there)); done))) | apply Sb.drop)) (watch_led (log := x.log) (h_w.led_ok hnk q1) h_w.len (h_w.led_done hgok hnk q1) (by omega) (by omega) (by omega)) ct25 rfl fun r6 hr6 => ?_
          exact svg rfl (vnot rfl) <| svg rfl (vpkt rfl) <| sv (vpkf rfl) <| WL.nil <| WX.mid () trivial ⟨rfl, trivial⟩ ⟨rfl, rfl, rfl, rfl, rfl, rfl, rfl, trivial⟩ (fun _ h => by unfold ledW; rw [if_pos q1]; exact Sb.own (by repeat' (first | with_reducible exact Sb.all | exact Sb.nil | (apply Sb.cons; focus (first | ((repeat (first | with_reducible exact Tk.here | with_reducible apply Tk.there)); done) | ((repeat (first | exact Tk.here | apply Tk.there)); done))) | apply Sb.drop)) h)
        ·
          exact svg rfl (vmB rfl) <| sng rfl <| sng rfl <| sng rfl <| sng rfl <| sng rfl <| sng rfl <| svg rfl (vpkf rfl) <| sv (vpkf rfl) <| WL.nil <| WX.mid () trivial ⟨rfl, trivial⟩ ⟨rfl, rfl, rfl, rfl, rfl, rfl, rfl, trivial⟩ (fun _ h => by unfold ledW; rw [if_neg q1]; exact Sb.own (by repeat' (first | with_reducible exact Sb.all | exact Sb.nil | (apply Sb.cons; focus (first | ((repeat (first | with_reducible exact Tk.here | with_reducible apply Tk.there)); done) | ((repeat (first | exact Tk.here | apply Tk.there)); done))) | apply Sb.drop)) h)
      refine WC.ff rfl ?_
      obtain ⟨s2, hs2⟩ : ∃ s2, s2 = ledW s1 ((i : Int) + 1) x := ⟨_, rfl⟩
      rw [← hs2]
      have h2d : s2.done = s1.done := by rw [hs2]; unfold ledW; split <;> rfl
      have h2l : s2.led.length ≤ s1.led.length + 1 := by rw [hs2]; unfold ledW; split; simp; omega
      have h2s : WI n g s2.led s2.done s2.seen := by rw [hs2]; unfold ledW; split; exact h_w.led_add hnk (by assumption); exact h_w
      refine WC.ex (B := fun b => wL q s2 b (hc p S :: row r2.1 r2.2 2 69 (cvs x.log) :: R)) (fun w h => hw_open h) ?_
      intro b2 hb2
      refine WC.skip <| WX.thenN <| WC.seq <| WC.region <| sv (vaI rfl) <| WL.nil <| WX.thenN <| WC.block <| ?_
      refine WC.loop (ι := LkI) (fun i => [(11, .int .i64 i.k)]) [(0, .pointer _), (1, .pointer _), (2, .int _ _), (7, .int _ _), (8, .slice _ _ _), (9, .int _ _), (10, .int _ _)] (fun i => wL q i.s i.b (hc p S :: row r2.1 r2.2 2 69 (cvs x.log) :: R)) (fun i => LjR n g s2 x.commit i) (fun i => x.commit.toNat - i.k) (⟨0, s2, b2⟩) (⟨hxc.1, Nat.zero_le _, h2s, hb2, rfl, by rw [h2d]; exact h_d⟩) ⟨rfl, trivial⟩ ⟨rfl, rfl, rfl, rfl, rfl, rfl, rfl, trivial⟩ (fun w h => h) ?_
      rintro ⟨k, s3, b3⟩ hsk ρh
      dsimp only at hsk ⊢
      obtain ⟨k_k, k_d, k_s, k_w, k_l, k_10⟩ := hsk
      dsimp only at k_k k_d k_s k_w k_l k_10
      have hlk := cvs_length x.log
      have hdk := cvs_length s3.done
      refine WC.seq <| WC.seq <| WC.region <| sv (vmI rfl) <| sv (vmI rfl) <| sv (vlt rfl rfl) <| WL.nil <| WX.thenN <| ?_
      refine WC.ite rfl (fun h4 => ?_) (fun h4 => ?_)
      · -- then
        have hkl : k < x.log.length := by omega
        obtain ⟨d, hd3⟩ : ∃ d, x.log[k]? = some d := ⟨_, List.getElem?_eq_getElem hkl⟩
        have hag : ((cvs x.log).drop (((k : Int)).toNat * 2)).take 2 = [.int .i64 d.term, .string d.data] := by rw [Int.toNat_natCast]; exact cvs_take2 hd3
        refine WC.skip <| WX.thenN <| WC.seq <| WC.block <| WC.seq <| WC.seq <| WC.region <| sv (vmI rfl) <| sv (vmP rfl) <| sv (vnil rfl) <| sv (vfldp fl34f1 rfl) <| sv (vldc pl31 rfl) <| sv (vlen Try.underlying31 rfl) <| sv (vlt rfl rfl) <| WL.nil <| WX.thenN <| ?_
        refine WC.ite rfl (fun h5 => ?_) (fun h5 => ?_)
        · -- then
          have hkd : k < s3.done.length := by omega
          have hdd : s3.done[k]? = some d := by rw [at_takeC (k_s.done_eq hgok hnk (k := k) (by omega) hkd)]; exact hd3
          have hagd : ((cvs s3.done).drop (((k : Int)).toNat * 2)).take 2 = [.int .i64 d.term, .string d.data] := by rw [Int.toNat_natCast]; exact cvs_take2 hdd
          refine WC.seq <| WC.seq <| WC.draws rfl (by kernel_rfl) <| qv (vmP rfl) <| qv (vnil rfl) <| qv (vfldp fl34f1 rfl) <| qv (vldc pl31 rfl) <| qv (vmI rfl) <| qv (vix Try.underlying31 sz69 rfl rfl (by omega) (by omega) (RdC.of_row (c := b3.dc) (s := 2) (e := 69) (vs := cvs s3.done) (by simp)) (by omega)) <| qv (vlda ag69 sz69 rfl (RdC.of_row (c := b3.dc) (s := 2) (e := 69) (vs := cvs s3.done) (by simp)) hagd rfl (by decide)) <| qv (vmS rfl) <| qv (vmI rfl) <| qv (vix Try.underlying31 sz69 rfl rfl (by omega) (by omega) (RdC.of_row (c := r2.2) (s := 2) (e := 69) (vs := cvs x.log) (by simp)) (by omega)) <| qv (vlda ag69 sz69 rfl (RdC.of_row (c := r2.2) (s := 2) (e := 69) (vs := cvs x.log) (by simp)) hag rfl (by decide)) <| qv (vneF eq69 rfl rfl (by simp [eqV])) <| WQ.nil <| WX.thenN <| ?_
          refine WC.ff rfl ?_
          exact WC.skip <| WX.thenN <| WC.exit <| WX.thenE <| WX.blockH <| WX.thenN <| WC.region <| sv (vmI rfl) <| sv (vadd rfl rfl (by omega)) <| sv (vaI rfl) <| WL.nil <| WX.again (⟨k + 1, s3, b3⟩) (⟨by show ((k + 1 : Nat) : Int) ≤ _; omega, by show k + 1 ≤ s3.done.length; omega, k_s, k_w, k_l, k_10⟩) (by show x.commit.toNat - (k + 1) < x.commit.toNat - k; omega) ⟨rfl, trivial⟩ ⟨rfl, rfl, rfl, rfl, rfl, rfl, rfl, trivial⟩ (fun _ h => Sb.own (by repeat' (first | with_reducible exact Sb.all | exact Sb.nil | (apply Sb.cons; focus (first | ((repeat (first | with_reducible exact Tk.here | with_reducible apply Tk.there)); done) | ((repeat (first | exact Tk.here | apply Tk.there)); done))) | apply Sb.drop)) h)
        · -- else
          have hkd : k = s3.done.length := by omega
          have hsl3 := k_s.len
          have hi64 : (i64s s3.seen).length = s3.seen.length := by simp [i64s]
          refine WC.skip <| WX.thenN <| WC.seq <| WC.plan (.pre [5, 6, 7, 8] (.one [0, 1, 2, 3, 4] 9 (.one [] 10 (.bar [11, 12] 13 (.done []))))) rfl (by kernel_rfl) <| WPl.preC <| dv (fun g => (vmS rfl)) <| dv (fun g => (vmI rfl)) <| dv (fun g => (vix Try.underlying31 sz69 rfl rfl (by omega) (by omega) (RdC.of_row (c := r2.2) (s := 2) (e := 69) (vs := cvs x.log) (by simp)) (by omega))) <| dv (fun g => (vlda ag69 sz69 rfl (RdC.of_row (c := r2.2) (s := 2) (e := 69) (vs := cvs x.log) (by simp)) hag rfl (by decide))) <| WD.nil <| WPl.oneX [row b3.db b3.dc 2 69 (cvs s3.done)] (by repeat' (first | exact Spl.nil | (apply Spl.cons; focus (first | ((repeat (first | with_reducible exact Tk.here | with_reducible apply Tk.there)); done) | ((repeat (first | exact Tk.here | apply Tk.there)); done))))) (fun g => by infer_instance) ?_
          refine dv (fun g => (vmP rfl)) <| dv (fun g => (vmP rfl)) <| dv (fun g => (vnil rfl)) <| dv (fun g => (vfldp fl34f1 rfl)) <| dv (fun g => (vldc pl31 rfl)) <| WD.eff rfl <| bslA (v := .agg _) (cs := [.int .i64 d.term, .string d.data]) Try.underlying31 zt69 rfl rfl rfl (by decide) (by decide) fun b16 => WL.nil <| WX.br <| WPl.oneX [row b3.db b3.dc 2 69 (cvs s3.done)] (by repeat' (first | exact Spl.nil | (apply Spl.cons; focus (first | ((repeat (first | with_reducible exact Tk.here | with_reducible apply Tk.there)); done) | ((repeat (first | exact Tk.here | apply Tk.there)); done))))) (fun g => by infer_instance) ?_
          refine WD.eff rfl <| pm (fun _ h => Sb.own (by repeat' (first | with_reducible exact Sb.all | exact Sb.nil | (apply Sb.cons; focus (first | ((repeat (first | with_reducible exact Tk.here | with_reducible apply Tk.there)); done) | ((repeat (first | exact Tk.here | apply Tk.there)); done))) | apply Sb.drop)) h) <| ap (vs := cvs s3.done) (news := [.int .i64 d.term, .string d.data]) rfl Try.underlying31 zt69 rfl rfl rfl (by omega) (rfl) (by intro v hv; simp only [List.mem_cons, List.not_mem_nil, or_false] at hv; rcases hv with rfl | rfl <;> rfl) ((RdC.of_cel (e := 69) (ws := [.int .i64 d.term, .string d.data]) 0 (by simp) (by simp))) (by simp only [maxLen]; omega) (by omega) fun base17 c17 hc17 => ?_
          refine WL.nil <| WX.br <| WPl.barC <| dv (fun g => (vnil rfl)) <| dv (fun g => (vfldp fl34f1 rfl)) <| WD.eff rfl <| stp (v := .slice _ _ _) pl31 sz31 rfl rfl rfl <| WL.nil <| WX.brT <| WPl.finC <| WD.nil <| WX.thenN <| WC.region <| sv (vmP rfl) <| sv (vmP rfl) <| sv (vnil rfl) <| sv (vfldp fl34f2 rfl) <| sv (vldc pl32 rfl) <| sv (vmI rfl) <| pm (fun _ h => Sb.own (by repeat' (first | with_reducible exact Sb.all | exact Sb.nil | (apply Sb.cons; focus (first | ((repeat (first | with_reducible exact Tk.here | with_reducible apply Tk.there)); done) | ((repeat (first | exact Tk.here | apply Tk.there)); done))) | apply Sb.drop)) h) <| ap1 (v := .int _ _) (vs := i64s s3.seen) Try.underlying32 zt3 rfl (fun _ => rfl) (fun _ => rfl) rfl rfl rfl (by omega) (by simp only [maxLen]; omega) (by omega) fun _ base21 c21 hc21 => ?_
          refine sv (vnil rfl) <| sv (vfldp fl34f2 rfl) <| stp (v := .slice _ _ _) pl32 sz32 rfl rfl rfl <| WL.nil <| WX.blockN <| WX.thenN <| WC.region <| sv (vmI rfl) <| sv (vadd rfl rfl (by omega)) <| sv (vaI rfl) <| WL.nil <| WX.again (⟨k + 1, { s3 with done := s3.done ++ [d], seen := s3.seen ++ [x.term] }, { b3 with db := base17, dc := c17, sb := base21, sc := c21 }⟩) (⟨by show ((k + 1 : Nat) : Int) ≤ _; omega, by show k + 1 ≤ (s3.done ++ [d]).length; simp only [List.length_append, List.length_cons, List.length_nil]; omega, k_s.done_add hgok hnk (by omega) (by rw [← hkd]; exact hd3), ⟨k_w.g, by show (s3.done ++ [d]).length ≤ c17; simp only [List.length_append, List.length_cons, List.length_nil]; omega, by show (s3.seen ++ [x.term]).length ≤ c21; simp only [List.length_append, List.length_cons, List.length_nil]; omega⟩, k_l, by show (s3.done ++ [d]).length ≤ 10000; simp only [List.length_append, List.length_cons, List.length_nil]; omega⟩) (by show x.commit.toNat - (k + 1) < x.commit.toNat - k; omega) ⟨rfl, trivial⟩ ⟨rfl, rfl, rfl, rfl, rfl, rfl, rfl, trivial⟩ (fun w h => ?_)
          show Own w0 (cel q [.slice b3.gb s3.led.length b3.gc, .slice base17 (s3.done ++ [d]).length c17, .slice base21 (s3.seen ++ [x.term]).length c21] 34 :: row b3.gb b3.gc 2 100 (ldC s3.led) :: row base17 c17 2 69 (cvs (s3.done ++ [d])) :: row base21 c21 1 3 (i64s (s3.seen ++ [x.term])) :: hc p S :: row r2.1 r2.2 2 69 (cvs x.log) :: R) w
          rw [cvs_append, show cvs [d] = [.int .i64 d.term, .string d.data] by rfl, show i64s (s3.seen ++ [x.term]) = i64s s3.seen ++ [.int .i64 x.term] by simp [i64s], show (s3.done ++ [d]).length = s3.done.length + 1 by simp, show (s3.seen ++ [x.term]).length = s3.seen.length + 1 by simp]
          exact Sb.own (by repeat' (first | with_reducible exact Sb.all | exact Sb.nil | (apply Sb.cons; focus (first | ((repeat (first | with_reducible exact Tk.here | with_reducible apply Tk.there)); done) | ((repeat (first | exact Tk.here | apply Tk.there)); done))) | apply Sb.drop)) h
      · -- else
        exact WC.exit <| WX.thenE <| WX.thenE <| WX.blockH <| WX.blockN <| WX.thenN <| WC.region <| sv (vmI rfl) <| sv (vadd rfl rfl (by omega)) <| sv (vaI rfl) <| WL.nil <| WX.again ((i + 1, s3)) (⟨⟨k_s, by show s3.led.length ≤ s.led.length + (i + 1); rw [k_l]; omega, k_10⟩, by show i + 1 ≤ _; omega⟩) (by show S.ms.length - (i + 1) < S.ms.length - i; omega) ⟨iv (by push_cast; omega), trivial⟩ ⟨rfl, rfl, rfl, trivial⟩ (fun w h => hw_mk k_w (Sb.own (by repeat' (first | with_reducible exact Sb.all | exact Sb.nil | (apply Sb.cons; focus (first | ((repeat (first | with_reducible exact Tk.here | with_reducible apply Tk.there)); done) | ((repeat (first | exact Tk.here | apply Tk.there)); done))) | apply Sb.drop)) h))
  · -- else
    exact WC.exit <| WX.thenE <| WX.thenE <| WX.blockH <| WX.thenN <| WC.seq <| WC.region <| sv (vaB rfl) <| WL.nil <| WX.thenN <| WC.ret <| WX.ret1 rfl (s1) (by have e : i = S.ms.length := by { omega }; subst e; exact ⟨h_w, h_l, h_d⟩) rfl (fun _ h => Sb.own (by repeat' (first | with_reducible exact Sb.all | exact Sb.nil | (apply Sb.cons; focus (first | ((repeat (first | with_reducible exact Tk.here | with_reducible apply Tk.there)); done) | ((repeat (first | exact Tk.here | apply Tk.there)); done))) | apply Sb.drop)) h)
/-- what is known, act by act -/
structure SfR (n K : Nat) (S : CS) (s : WS) : Prop where
  ci : ∃ g, CI K S g ∧ WI n g s.led s.done s.seen
  few : Few S
  n : S.ms.length = n
  led : s.led.length ≤ 5 * K
  done : s.done.length ≤ 10000
theorem stepM_len (n : Nat) (a : OV) (S : CS) : (actO n a S).ms.length = S.ms.length := by
  have h1 : ∀ (i : Nat) (f : Rn → Rn × List Ml) (S : CS), (Go.Council.stepC i f S).1.ms.length = S.ms.length := fun i f S => by
    unfold Go.Council.stepC
    split
    · rfl
    · split
      · rfl
      · exact List.length_set
  have hp : ∀ (S : CS) (j : Nat) (m : Mg), (putM S j m).ms.length = S.ms.length := fun S j m => List.length_set
  unfold actO
  split
  · unfold propC
    split
    · rfl
    · split
      · rfl
      · split
        · rfl
        · split
          · rfl
          · split <;> exact h1 _ _ _
  · unfold actC
    split
    · split
      · have h3 : ∀ c : Prop, [Decidable c] → (if c then S else (⟨S.ms, S.mails.eraseIdx (placeC a S).toNat⟩ : CS)).ms.length = S.ms.length := fun c _ => by split <;> rfl
        dsimp only
        split
        · exact h3 _
        · split
          · rw [h1]; exact h3 _
          · exact h3 _
      · rfl
    · split
      · split
        · rfl
        · split
          · exact h1 _ _ _
          · split
            · exact hp _ _ _
            · split
              · exact hp _ _ _
              · split
                · dsimp only
                  split
                  · exact hp _ _ _
                  · rfl
                · rfl
      · rfl
theorem law_safe20 {w0 : World} {A : List HProp} {n : Int} {o : Sla OV} (hn : I64 n) (ho : Rd w0 o.base (o.xs.flatMap cellO)) (hx : ∀ a ∈ o.xs, gO a) :
    Fun Try.prog w0 3 [.int .i64 n, .slice o.base o.xs.length o.cap] A (Ret w0 (fun _ : Unit => True) (fun _ => .bool true) (fun _ => A)) := by
  have hfl : (o.xs.flatMap cellO).length = o.xs.length * 6 := flat_len (fun _ _ => rfl)
  obtain ⟨N, hN⟩ : ∃ N : Nat, (N : Int) = 1 + countC n 5 := ⟨(1 + countC n 5).toNat, by have := (count_bound (c := n) (n := 5) (by decide)).1; omega⟩
  have hNb := count_bound (c := n) (n := 5) (by decide)
  refine Fun.enter Try.func3 rfl Try.ntmps3 rfl ?_
  refine WC.seq <| WC.region <| sv (vaB rfl) <| WL.nil <| WX.thenN <| WC.seq <| WC.seq <| WC.region <| sv (vmS rfl) <| clx (by repeat' (first | with_reducible exact Sb.all | exact Sb.nil | (apply Sb.cons; focus (first | ((repeat (first | with_reducible exact Tk.here | with_reducible apply Tk.there)); done) | ((repeat (first | exact Tk.here | apply Tk.there)); done))) | apply Sb.drop)) (law_small20 (by decide) ho) ct7 rfl fun r1 hr1 => ?_
  refine sv (vnot rfl) <| WL.nil <| WX.thenN <| ?_
  refine WC.iteb rfl (fun h1 => ?_) (fun h1 => ?_)
  · -- then
    exact WC.seq <| WC.region <| sv (vaB rfl) <| WL.nil <| WX.thenN <| WC.ret <| WX.thenR <| WX.ret1 rfl (()) (trivial) rfl (fun _ h => Sb.own (by repeat' (first | with_reducible exact Sb.all | exact Sb.nil | (apply Sb.cons; focus (first | ((repeat (first | with_reducible exact Tk.here | with_reducible apply Tk.there)); done) | ((repeat (first | exact Tk.here | apply Tk.there)); done))) | apply Sb.drop)) h)
  · -- else
    have hsm : (o.xs.length : Int) ≤ 400 ∧ ∀ a ∈ o.xs, a.data.size ≤ 5000 := by simpa using h1
    refine WC.skip <| WX.thenN <| WC.seq <| WC.region <| sv (vmI rfl) <| clx (by repeat' (first | with_reducible exact Sb.all | exact Sb.nil | (apply Sb.cons; focus (first | ((repeat (first | with_reducible exact Tk.here | with_reducible apply Tk.there)); done) | ((repeat (first | exact Tk.here | apply Tk.there)); done))) | apply Sb.drop)) (law_count (by decide) hn) ct8 rfl fun r2 hr2 => ?_
    refine sv (vw (v' := .int .i64 (N : Int)) (vadd rfl rfl (by omega)) (iv (by omega))) <| sv (vaI rfl) <| WL.nil <| WX.thenN <| WC.seq <| WC.region <| sv (vmI rfl) <| clx (by repeat' (first | with_reducible exact Sb.all | exact Sb.nil | (apply Sb.cons; focus (first | ((repeat (first | with_reducible exact Tk.here | with_reducible apply Tk.there)); done) | ((repeat (first | exact Tk.here | apply Tk.there)); done))) | apply Sb.drop)) (c_new (n := N) (by omega) (by omega)) ct9 rfl fun r4 hr4 => ?_
    refine sv vmv <| sv (vex rfl rfl) <| sv (vex rfl rfl) <| sv (vaP rfl) <| sv (vaI rfl) <| WL.nil <| WX.thenN <| WC.seq <| ?_
    refine WC.cutS [(25, .bool (decide (False)))] [(0, .int _ _), (1, .slice _ _ _), (5, .pointer _)] ⟨rfl, rfl, rfl, trivial⟩ ?_ fun ρh => ?_
    · -- law.go:194
      exact WC.region <| sv (vmP rfl) <| sv (vpeqF Try.underlying25 rfl rfl) <| sv (vmB rfl) <| svg rfl (vmI rfl) <| svg rfl (vne rfl rfl) <| sv (vpkf rfl) <| WL.nil <| WX.mid () trivial ⟨bI (by first | omega | simp_all | grind), trivial⟩ ⟨rfl, rfl, rfl, trivial⟩ (fun _ h => Sb.own (by repeat' (first | with_reducible exact Sb.all | exact Sb.nil | (apply Sb.cons; focus (first | ((repeat (first | with_reducible exact Tk.here | with_reducible apply Tk.there)); done) | ((repeat (first | exact Tk.here | apply Tk.there)); done))) | apply Sb.drop)) h)
    refine WC.ff rfl ?_
    refine WC.skip <| WX.thenN <| WC.seq <| WC.region <| sv (vbd (ps := []) (cs := [_, _, _]) bt34 zt34 rfl (by rfl)) <| bxc (v := .agg _) (cs := [.slice _ _ _, .slice _ _ _, .slice _ _ _]) rfl rfl fun b7 => sv (vaP rfl) <| WL.nil <| WX.thenN <| WC.seq <| WC.seq <| WC.region <| sv (vaI rfl) <| WL.nil <| WX.thenN <| WC.block <| ?_
    refine WC.loop (ι := Nat × CS × WS) (fun i => [(8, .int .i64 i.1)]) [(0, .int _ _), (1, .slice _ _ _), (5, .pointer _), (7, .pointer _)] (fun i => hw b7 i.2.2 :: hc r4 i.2.1 :: A) (fun i => i.1 ≤ o.xs.length ∧ SfR N i.1 i.2.1 i.2.2) (fun i => o.xs.length - i.1) ((0, freshC N, ⟨[], [], []⟩)) (⟨Nat.zero_le _, ⟨gh0, CI.fresh (by omega) (by omega), WI.nil⟩, Few.fresh N, freshC_len N, Nat.zero_le _, Nat.zero_le _⟩) ⟨rfl, trivial⟩ ⟨rfl, rfl, rfl, rfl, trivial⟩ (fun w h => hw_mk (s := ⟨[], [], []⟩) (b := ⟨none, 0, none, 0, none, 0⟩) ⟨Nat.le_refl _, Nat.le_refl _, Nat.le_refl _⟩ (by have h2 : Own w0 (row none 0 2 100 (ldC []) :: row none 0 2 69 (cvs []) :: row none 0 1 3 (i64s []) :: _) w := Own.intro_row_nil (Own.intro_row_nil (Own.intro_row_nil h)); exact Sb.own (by repeat' (first | with_reducible exact Sb.all | exact Sb.nil | (apply Sb.cons; focus (first | ((repeat (first | with_reducible exact Tk.here | with_reducible apply Tk.there)); done) | ((repeat (first | exact Tk.here | apply Tk.there)); done))) | apply Sb.drop)) h2)) ?_
    rintro ⟨i, S, s⟩ ⟨hi1, hsf⟩ ρh
    dsimp only at hi1 hsf ⊢
    obtain ⟨⟨g, hci, hwi⟩, hfew, hSn, hled, hdone⟩ := hsf
    refine WC.seq <| WC.seq <| WC.region <| sv (vmI rfl) <| sv (vmS rfl) <| sv (vlen Try.underlying22 rfl) <| sv (vlt rfl rfl) <| WL.nil <| WX.thenN <| ?_
    refine WC.ite rfl (fun h3 => ?_) (fun h3 => ?_)
    · -- then
      have hil : i < o.xs.length := by omega
      obtain ⟨a, ha⟩ : ∃ a, o.xs[i]? = some a := ⟨_, List.getElem?_eq_getElem hil⟩
      have hae := (List.getElem?_eq_some_iff.1 ha).2
      have hpos : 0 < (o.xs.flatMap cellO).length := by omega
      have hag : ((o.xs.flatMap cellO).drop (((i : Int)).toNat * 6)).take 6 = cellO a := by rw [Int.toNat_natCast, flat_take (f := cellO) (s := 6) (fun _ _ => rfl) hil, hae]
      have hRi : Reads w0 A o.base (o.xs.flatMap cellO) := ⟨RdC.old ho⟩
      refine WC.known (fun w h => rd_someO hpos hRi.rd (dropL [_, _] h)) fun hb => ?_
      obtain ⟨⟨ak, ai, an, akeep, _⟩, ap, ad, _⟩ := a
      have hga := hx _ (List.mem_of_getElem? ha)
      obtain ⟨g2, he2, hci2⟩ := hci.actO (n := N) (a := ((ak, ai, an, akeep, ()), ap, ad, ())) (by omega) hga.2
      have hfew2 := Few_actO (n := N) (a := ((ak, ai, an, akeep, ()), ap, ad, ())) hfew
      have hlen2 := stepM_len N ((ak, ai, an, akeep, ()), ap, ad, ()) S
      refine WC.skip <| WX.thenN <| WC.seq <| WC.block <| WC.seq <| WC.region <| sv (vmP rfl) <| sv (vmI rfl) <| sv (vmS rfl) <| sv (vmI rfl) <| sv (vix Try.underlying22 sz39 rfl rfl (by omega) (by omega) (RdC.old ho) hpos) <| sv (vlda ag39 sz39 rfl (RdC.old ho) hag rfl (by decide)) <| clx (by repeat' (first | with_reducible exact Sb.all | exact Sb.nil | (apply Sb.cons; focus (first | ((repeat (first | with_reducible exact Tk.here | with_reducible apply Tk.there)); done) | ((repeat (first | exact Tk.here | apply Tk.there)); done))) | apply Sb.drop)) (law_act (n := N) hci hfew (by omega) (by omega) hga.1 hga.2) ct10 rfl fun r10 hr10 => ?_
      refine WL.nil <| WX.thenN <| WC.seq <| WC.region <| sv (vmP rfl) <| sv (vmP rfl) <| sv (vmI rfl) <| clx (by repeat' (first | with_reducible exact Sb.all | exact Sb.nil | (apply Sb.cons; focus (first | ((repeat (first | with_reducible exact Tk.here | with_reducible apply Tk.there)); done) | ((repeat (first | exact Tk.here | apply Tk.there)); done))) | apply Sb.drop)) (watch_look (n := (N : Int)) (by rw [hlen2, hSn]) hci2 (hwi.ext he2) (by omega) hdone) ct11 rfl fun r11 hr11 => ?_
      refine sv (vnot rfl) <| WL.nil <| WX.thenN <| ?_
      refine WC.ff rfl ?_
      exact WC.skip <| WX.blockN <| WX.thenN <| WC.region <| sv (vmI rfl) <| sv (vadd rfl rfl (by omega)) <| sv (vaI rfl) <| WL.nil <| WX.again ((i + 1, actO N ((ak, ai, an, akeep, ()), ap, ad, ()) S, r11)) (⟨hil, ⟨g2, hci2, hr11.wi⟩, hfew2, by rw [hlen2, hSn], by have := hr11.led; rw [hlen2, hSn] at this; dsimp only; omega, hr11.done⟩) (by show o.xs.length - (i + 1) < o.xs.length - i; omega) ⟨rfl, trivial⟩ ⟨rfl, rfl, rfl, rfl, trivial⟩ (fun _ h => Sb.own (by repeat' (first | with_reducible exact Sb.all | exact Sb.nil | (apply Sb.cons; focus (first | ((repeat (first | with_reducible exact Tk.here | with_reducible apply Tk.there)); done) | ((repeat (first | exact Tk.here | apply Tk.there)); done))) | apply Sb.drop)) h)
    · -- else
      refine WC.exit <| WX.thenE <| WX.thenE <| WX.blockH <| WX.thenN <| WC.seq <| WC.region <| clx (by repeat' (first | with_reducible exact Sb.all | exact Sb.nil | (apply Sb.cons; focus (first | ((repeat (first | with_reducible exact Tk.here | with_reducible apply Tk.there)); done) | ((repeat (first | exact Tk.here | apply Tk.there)); done))) | apply Sb.drop)) (law_awake) ct12 rfl fun r13 hr13 => ?_
      exact sv (vaB rfl) <| WL.nil <| WX.thenN <| WC.ret <| WX.ret1 rfl (()) (trivial) rfl (fun _ h => Sb.own (by repeat' (first | with_reducible exact Sb.all | exact Sb.nil | (apply Sb.cons; focus (first | ((repeat (first | with_reducible exact Tk.here | with_reducible apply Tk.there)); done) | ((repeat (first | exact Tk.here | apply Tk.there)); done))) | apply Sb.drop)) h)
end Go.Proofs.Ytigjompojlhomaa
end
section
set_option linter.unusedVariables false
set_option linter.unusedSimpArgs false
set_option maxRecDepth 4000
namespace Go.Council
open Go.Raft Go.Journal Go.Pack Go.Sl Go.Proofs.Ytigjompojlhomaa

/-- whom a node follows: as before, none, itself, or a sender -/
def Ldr (x y : Rn) (fr : Int) : Prop := y.leader = x.leader ∨ y.leader = 0 ∨ y.leader = x.id ∨ y.leader = fr
theorem lead_ldr (x : Rn) : (leadS x).1.leader = x.leader ∨ (leadS x).1.leader = x.id := by
  unfold leadS
  split
  · refine .inr ?_
    show (if x.log.length < 10000 then addS ByteArray.empty (leaderS x) else leaderS x).leader = x.id
    split <;> rfl
  · exact .inl rfl
theorem tick_ldr (x : Rn) (fr : Int) : Ldr x (tickS x).1 fr := by
  unfold tickS
  split
  · split <;> exact .inl rfl
  · split
    · exact .inl rfl
    · split
      · rcases lead_ldr (runS x) with h | h
        · exact .inr (.inl h)
        · exact .inr (.inr (.inl h))
      · exact .inr (.inl rfl)
theorem take_ldr (x : Rn) (m : Ml) : Ldr x (takeS x m).1 m.fr := by
  have hs : (stepS m x).leader = x.leader ∨ (stepS m x).leader = 0 := by unfold stepS; split; exact .inr rfl; exact .inl rfl
  have hi : (stepS m x).id = x.id := by unfold stepS; split <;> rfl
  have h0 : Ldr x (stepS m x) m.fr := by rcases hs with h | h; exact .inl h; exact .inr (.inl h)
  unfold takeS
  split
  · split
    · unfold askedS
      show Ldr x (if voteOk (stepS m x) m then _ else _ : Rn) m.fr
      split
      · exact h0
      · exact h0
    · split
      · unfold votesS
        split
        · exact h0
        · rcases lead_ldr (votedS m.fr (stepS m x)) with h | h
          · rcases hs with h2 | h2
            · exact .inl (h.trans h2)
            · exact .inr (.inl (h.trans h2))
          · exact .inr (.inr (.inl (h.trans hi)))
      · split
        · unfold fedS
          split
          · exact h0
          · split
            · exact h0
            · split
              · exact .inr (.inr (.inr rfl))
              · split
                · exact .inr (.inr (.inr rfl))
                · exact .inr (.inr (.inr rfl))
        · unfold answeredS
          split
          · exact h0
          · split
            · exact h0
            · dsimp only
              split
              · exact h0
              · exact h0
  · exact .inl rfl
theorem prop_ldr (x : Rn) (d : ByteArray) (fr : Int) : Ldr x (proposeS x d).1 fr := .inl rfl
/-- the manager w is down: nothing is of it -/
structure Dn (w : Int) (S : CS) : Prop where
  node : ∀ (j : Nat) (m : Mg), S.ms[j]? = some m → (j : Int) + 1 = w → m.node = none
  mails : ∀ m ∈ S.mails, m.fr ≠ w
  leader : ∀ (j : Nat) (m : Mg) (x : Rn), S.ms[j]? = some m → m.node = some x → x.leader ≠ w
theorem stepM_node (x y : Rn) (m : Mg) : (stepM x y m).1.node = some y ∨ (stepM x y m).1.node = none := by
  unfold stepM
  split
  · exact .inl rfl
  · unfold saveS
    split
    · exact .inl rfl
    · exact .inr rfl
theorem Dn.put {w : Int} {S : CS} {j : Nat} {m' : Mg} (h : Dn w S) (h1 : (j : Int) + 1 = w → m'.node = none) (h2 : ∀ x, m'.node = some x → x.leader ≠ w) : Dn w (putM S j m') := by
  refine ⟨fun i m hm hi => ?_, h.mails, fun i m x hm hx => ?_⟩
  · by_cases e : i = j
    · subst e
      unfold putM at hm
      dsimp only at hm
      have hl := (List.getElem?_eq_some_iff.1 hm).1
      rw [List.getElem?_set_self (by simpa using hl)] at hm
      cases hm; exact h1 hi
    · unfold putM at hm
      dsimp only at hm
      rw [List.getElem?_set_ne (fun q => e q.symm)] at hm
      exact h.node i m hm hi
  · by_cases e : i = j
    · subst e
      unfold putM at hm
      dsimp only at hm
      have hl := (List.getElem?_eq_some_iff.1 hm).1
      rw [List.getElem?_set_self (by simpa using hl)] at hm
      cases hm; exact h2 x hx
    · unfold putM at hm
      dsimp only at hm
      rw [List.getElem?_set_ne (fun q => e q.symm)] at hm
      exact h.leader i m x hm hx
theorem Dn.lose {w : Int} {S : CS} {mails : List Ml} (h : Dn w S) (hs : ∀ m ∈ mails, m ∈ S.mails) : Dn w ⟨S.ms, mails⟩ := ⟨h.node, fun m hm => h.mails m (hs m hm), h.leader⟩
theorem Dn.stepC {w fr : Int} {K : Nat} {S : CS} {g : Gh} {i : Nat} {f : Rn → Rn × List Ml} {mails : List Ml} (hc : CI K S g) (hw : w ≠ 0) (h : Dn w S) (hs : ∀ m ∈ mails, m ∈ S.mails) (hfr : fr ≠ w) (hf : ∀ x, Out x.id (f x).2 ∧ Ldr x (f x).1 fr) : Dn w (Council.stepC i f ⟨S.ms, mails⟩).1 := by
  have hl := h.lose hs
  unfold Council.stepC
  dsimp only
  cases hm : S.ms[i]? with
  | none => exact hl
  | some m =>
    dsimp only
    cases hx : m.node with
    | none => exact hl
    | some x =>
      dsimp only
      have hi := ((hc.mg i m hm).up x hx).2.2.1.1
      have hne : x.id ≠ w := fun e => by
        have := h.node i m hm (by rw [← hi]; exact e)
        rw [hx] at this; cases this
      have hy : (f x).1.leader ≠ w := by
        rcases (hf x).2 with e | e | e | e
        · rw [e]; exact h.leader i m x hm hx
        · rw [e]; exact fun q => hw q.symm
        · rw [e]; exact hne
        · rw [e]; exact hfr
      have hp := (hl.put (j := i) (m' := (stepM x (f x).1 m).1) (fun e => absurd (hi.trans e) hne) fun z hz => by
        rcases stepM_node x (f x).1 m with e | e
        · rw [e] at hz; cases hz; exact hy
        · rw [e] at hz; cases hz)
      refine ⟨hp.node, fun q hq => ?_, hp.leader⟩
      dsimp only at hq
      split at hq
      · rcases sendM_mem hq with hq | hq
        · exact h.mails q (hs q hq)
        · rw [((hf x).1 q hq).1]; exact hne
      · exact h.mails q (hs q hq)
theorem Dn.act {w : Int} {K : Nat} {S : CS} {g : Gh} {k i n keep : Int} (hc : CI K S g) (hw : w ≠ 0) (h : Dn w S) (hon : ¬ (k = 7 ∧ i = w)) : Dn w (actC k i n keep S).1 := by
  have hmem : ∀ m ∈ S.mails.eraseIdx n.toNat, m ∈ S.mails := fun m hm => List.mem_of_mem_eraseIdx hm
  unfold actC
  split
  · split
    · rename_i hn
      have hq : S.mails.getD n.toNat ⟨0, 0, 0, 0, 0, 0, 0, false, []⟩ ∈ S.mails := by
        rw [List.getD_eq_getElem?_getD, List.getElem?_eq_getElem (by omega)]
        exact List.getElem_mem _
      have hfr := h.mails _ hq
      dsimp only
      split
      · split
        · exact h
        · exact h.lose hmem
      · split
        · split
          · exact Dn.stepC (mails := S.mails) hc hw h (fun _ h => h) hfr fun x => ⟨take_out x _, take_ldr x _⟩
          · exact Dn.stepC hc hw h hmem hfr fun x => ⟨take_out x _, take_ldr x _⟩
        · split
          · exact h
          · exact h.lose hmem
    · exact h
  · split
    · rename_i hi
      split
      · exact h
      · rename_i m hm
        split
        · exact Dn.stepC (mails := S.mails) (fr := 0) hc hw h (fun _ h => h) (fun e => hw e.symm) fun x => ⟨tick_out x, tick_ldr x 0⟩
        · split
          · exact h.put (fun e => h.node _ m hm e) fun x hx => h.leader _ m x hm hx
          · split
            · exact h.put (fun _ => rfl) fun x hx => by cases hx
            · split
              · rename_i h7
                dsimp only
                split
                · refine h.put (fun e => absurd ⟨h7, by omega⟩ hon) fun x hx => ?_
                  unfold openM at hx
                  split at hx
                  · cases hx; exact fun e => hw e.symm
                  · cases hx
                · exact h
              · exact h
    · exact h
theorem Dn.prop {w : Int} {K : Nat} {S : CS} {g : Gh} {i : Int} {d : ByteArray} (hc : CI K S g) (hw : w ≠ 0) (h : Dn w S) : Dn w (propC i d S).1 := by
  unfold propC
  split
  · exact h
  · split
    · exact h
    · split
      · exact h
      · split
        · exact h
        · have hst := Dn.stepC (mails := S.mails) (fr := 0) (i := (i - 1).toNat) (f := fun x => proposeS x d) hc hw h (fun _ h => h) (fun e => hw e.symm) fun x => ⟨prop_out x d, prop_ldr x d 0⟩
          split
          · exact hst
          · exact hst
theorem Dn.fresh {n : Nat} {w : Int} (hw : 1 ≤ w ∧ w ≤ n) : Dn w (actC 6 w 0 0 (freshC n)).1 ∧ (actC 6 w 0 0 (freshC n)).2 = 0 ∧ (actC 6 w 0 0 (freshC n)).1.ms.length = n := by
  have hl := freshC_len n
  obtain ⟨m, hm⟩ : ∃ m, (freshC n).ms[(w - 1).toNat]? = some m := ⟨_, List.getElem?_eq_getElem (by omega)⟩
  have e : actC 6 w 0 0 (freshC n) = (putM (freshC n) (w - 1).toNat ⟨offS 0 m.st, none, m.rs⟩, 0) := by
    unfold actC
    rw [if_neg (by decide), if_pos (by omega), hm]
    rfl
  rw [e]
  refine ⟨⟨fun j q hq hj => ?_, fun q hq => (by cases hq), fun j q x hq hx => ?_⟩, rfl, by unfold putM; rw [List.length_set, hl]⟩
  · have ej : j = (w - 1).toNat := by omega
    subst ej
    unfold putM at hq
    dsimp only at hq
    rw [List.getElem?_set_self (by omega)] at hq
    cases hq; rfl
  · by_cases ej : j = (w - 1).toNat
    · subst ej
      unfold putM at hq
      dsimp only at hq
      rw [List.getElem?_set_self (by omega)] at hq
      cases hq; cases hx
    · unfold putM at hq
      dsimp only at hq
      rw [List.getElem?_set_ne (fun q => ej q.symm)] at hq
      obtain ⟨rfl, _⟩ := freshC_at hq
      cases hx
      show (0 : Int) ≠ w
      omega
end Go.Council
end
section
set_option linter.unusedVariables false
set_option linter.unusedSimpArgs false
set_option maxRecDepth 4000
namespace Go.Proofs.Ytigjompojlhomaa
open Go.Sl Go.RowKit Go.Raft Go.Journal Go.Pack Go.Council

theorem Dn_actO {w : Int} {K : Nat} {S : CS} {g : Gh} {n : Nat} {a : OV} (hc : CI K S g) (hw : w ≠ 0) (h : Dn w S) (hon : ¬ (a.k = 7 ∧ 1 + countC a.i n = w)) : Dn w (actO n a S) := by
  unfold actO
  split
  · exact Dn.prop hc hw h
  · exact Dn.act hc hw h hon
theorem Dn_none {w : Int} {S : CS} (h : Dn w S) : nodeOf S w = none := by
  unfold nodeOf
  split
  · rename_i hi
    obtain ⟨m, hm⟩ : ∃ m, S.ms[(w - 1).toNat]? = some m := ⟨_, List.getElem?_eq_getElem (by omega)⟩
    rw [hm]
    exact h.node _ m hm (by omega)
  · rfl
theorem Dn_prop {w : Int} {S : CS} {d : ByteArray} (h : Dn w S) (hw : 1 ≤ w ∧ w ≤ S.ms.length) (hd : d.size ≠ 0 ∧ d.size ≤ 4096) : propC w d S = (S, 0, 20) := by
  unfold propC
  obtain ⟨m, hm⟩ : ∃ m, S.ms[(w - 1).toNat]? = some m := ⟨_, List.getElem?_eq_getElem (by omega)⟩
  rw [if_neg (by omega), hm]
  dsimp only
  rw [h.node _ m hm (by omega)]
theorem c_leader {w0 : World} {A : List HProp} {p : Nat} {S : CS} {i : Int} (hl5 : S.ms.length ≤ 5) : Fun Try.prog w0 21 [.pointer (some ⟨p, 0, none⟩), .int .i64 i] (hc p S :: A) (Ret w0 (fun _ : Unit => True) (fun _ => .int .i64 ((nodeOf S i).elim 0 Rn.leader)) (fun _ => hc p S :: A)) := by
  cases h : nodeOf S i with
  | none => exact c_leader_none hl5 h
  | some x => exact c_leader_some hl5 h
theorem Dn_leader {w i : Int} {S : CS} (h : Dn w S) (hw : w ≠ 0) : (nodeOf S i).elim 0 Rn.leader ≠ w := by
  cases hx : nodeOf S i with
  | none => exact fun e => hw e.symm
  | some x =>
    obtain ⟨j, m, rfl, hj, hn⟩ := nodeOf_some hx
    exact h.leader j m x hj hn
structure DwR (n : Nat) (w : Int) (i : Nat) (S : CS) : Prop where
  ci : ∃ K g, K ≤ i + 1 ∧ CI K S g
  few : Few S
  n : S.ms.length = n
  dn : Dn w S
abbrev xC : ByteArray := ⟨#[120]⟩
theorem law_down20 {w0 : World} {A : List HProp} {n who : Int} {o : Sla OV} (hn : I64 n) (hwho : I64 who) (ho : Rd w0 o.base (o.xs.flatMap cellO)) (hx : ∀ a ∈ o.xs, gO a) :
    Fun Try.prog w0 6 [.int .i64 n, .int .i64 who, .slice o.base o.xs.length o.cap] A (Ret w0 (fun _ : Unit => True) (fun _ => .bool true) (fun _ => A)) := by
  have hfl : (o.xs.flatMap cellO).length = o.xs.length * 6 := flat_len (fun _ _ => rfl)
  obtain ⟨N, hN⟩ : ∃ N : Nat, (N : Int) = 1 + countC n 5 := ⟨(1 + countC n 5).toNat, by have := (count_bound (c := n) (n := 5) (by decide)).1; omega⟩
  have hNb := count_bound (c := n) (n := 5) (by decide)
  obtain ⟨W, hW⟩ : ∃ W : Int, W = 1 + countC who N := ⟨_, rfl⟩
  have hWb := count_bound (c := who) (n := (N : Int)) (by omega)
  have hWr : 1 ≤ W ∧ W ≤ N := by omega
  obtain ⟨d0, d1, d2⟩ := Dn.fresh (n := N) hWr
  have hci0 : CI 0 (freshC N) gh0 := CI.fresh (by omega) (by omega)
  obtain ⟨g1, _, hci1⟩ := hci0.act (k := 6) (i := W) (n := 0) (keep := 0) (by decide) (by decide)
  have hfe1 : Few (actC 6 W 0 0 (freshC N)).1 := (Few.fresh N).act
  obtain ⟨S0, hS0⟩ : ∃ S0, S0 = (actC 6 W 0 0 (freshC N)).1 := ⟨_, rfl⟩
  refine Fun.enter Try.func6 rfl Try.ntmps6 rfl ?_
  refine WC.seq <| WC.region <| sv (vaB rfl) <| WL.nil <| WX.thenN <| WC.seq <| WC.seq <| WC.region <| sv (vmS rfl) <| clx (by repeat' (first | with_reducible exact Sb.all | exact Sb.nil | (apply Sb.cons; focus (first | ((repeat (first | with_reducible exact Tk.here | with_reducible apply Tk.there)); done) | ((repeat (first | exact Tk.here | apply Tk.there)); done))) | apply Sb.drop)) (law_small20 (by decide) ho) ct7 rfl fun r1 hr1 => ?_
  refine sv (vnot rfl) <| WL.nil <| WX.thenN <| ?_
  refine WC.iteb rfl (fun h1 => ?_) (fun h1 => ?_)
  · -- then
    exact WC.seq <| WC.region <| sv (vaB rfl) <| WL.nil <| WX.thenN <| WC.ret <| WX.thenR <| WX.ret1 rfl (()) (trivial) rfl (fun _ h => Sb.own (by repeat' (first | with_reducible exact Sb.all | exact Sb.nil | (apply Sb.cons; focus (first | ((repeat (first | with_reducible exact Tk.here | with_reducible apply Tk.there)); done) | ((repeat (first | exact Tk.here | apply Tk.there)); done))) | apply Sb.drop)) h)
  · -- else
    have hsm : (o.xs.length : Int) ≤ 300 ∧ ∀ a ∈ o.xs, a.data.size ≤ 5000 := by simpa using h1
    refine WC.skip <| WX.thenN <| WC.seq <| WC.region <| sv (vmI rfl) <| clx (by repeat' (first | with_reducible exact Sb.all | exact Sb.nil | (apply Sb.cons; focus (first | ((repeat (first | with_reducible exact Tk.here | with_reducible apply Tk.there)); done) | ((repeat (first | exact Tk.here | apply Tk.there)); done))) | apply Sb.drop)) (law_count (by decide) hn) ct8 rfl fun r2 hr2 => ?_
    refine sv (vw (v' := .int .i64 (N : Int)) (vadd rfl rfl (by omega)) (iv (by omega))) <| sv (vaI rfl) <| WL.nil <| WX.thenN <| WC.seq <| WC.region <| sv (vmI rfl) <| sv (vmI rfl) <| clx (by repeat' (first | with_reducible exact Sb.all | exact Sb.nil | (apply Sb.cons; focus (first | ((repeat (first | with_reducible exact Tk.here | with_reducible apply Tk.there)); done) | ((repeat (first | exact Tk.here | apply Tk.there)); done))) | apply Sb.drop)) (law_count (c := who) (by omega) hwho) ct8 rfl fun r4 hr4 => ?_
    refine sv (vw (v' := .int .i64 W) (vadd rfl rfl (by omega)) (iv (by omega))) <| sv (vaI rfl) <| WL.nil <| WX.thenN <| WC.seq <| WC.region <| sv (vmI rfl) <| clx (by repeat' (first | with_reducible exact Sb.all | exact Sb.nil | (apply Sb.cons; focus (first | ((repeat (first | with_reducible exact Tk.here | with_reducible apply Tk.there)); done) | ((repeat (first | exact Tk.here | apply Tk.there)); done))) | apply Sb.drop)) (c_new (n := N) (by omega) (by omega)) ct9 rfl fun r6 hr6 => ?_
    refine sv vmv <| sv (vex rfl rfl) <| sv (vex rfl rfl) <| sv (vaP rfl) <| sv (vaI rfl) <| WL.nil <| WX.thenN <| WC.seq <| ?_
    refine WC.cut0 [(43, .bool (decide (False)))] [(0, .int _ _), (1, .int _ _), (2, .slice _ _ _), (7, .pointer _)] (hc r6 S0 :: A) ⟨rfl, rfl, rfl, rfl, trivial⟩ ?_ fun ρh => ?_
    · -- more.go:50
      refine WC.region <| sv (vmP rfl) <| sv (vpeqF Try.underlying25 rfl rfl) <| sv (vmB rfl) <| svg rfl (vmI rfl) <| svg rfl (vF (vne rfl rfl) (by omega)) <| sv (vpkf rfl) <| sv (vmB rfl) <| svg rfl (vmP rfl) <| svg rfl (vmI rfl) <| svg rfl (vbd (ps := [(0, (.int .i64 6)), (1, .int _ _)]) (cs := [_, _, _, _]) bt37 zt37 rfl (by rfl)) <| gy rfl <| clx (by repeat' (first | with_reducible exact Sb.all | exact Sb.nil | (apply Sb.cons; focus (first | ((repeat (first | with_reducible exact Tk.here | with_reducible apply Tk.there)); done) | ((repeat (first | exact Tk.here | apply Tk.there)); done))) | apply Sb.drop)) (c_do_to (S' := S0) (r := 0) hci0 (Few.fresh N) (by decide) (by decide) hS0.symm d1) ct16 rfl fun r9 hr9 => ?_
      exact svg rfl (vF (vne rfl rfl) (by omega)) <| sv (vpkf rfl) <| WL.nil <| WX.mid () trivial ⟨bF (by first | omega | simp_all | grind), trivial⟩ ⟨rfl, rfl, rfl, rfl, trivial⟩ (fun _ h => Sb.own (by repeat' (first | with_reducible exact Sb.all | exact Sb.nil | (apply Sb.cons; focus (first | ((repeat (first | with_reducible exact Tk.here | with_reducible apply Tk.there)); done) | ((repeat (first | exact Tk.here | apply Tk.there)); done))) | apply Sb.drop)) h)
    refine WC.ff rfl ?_
    refine WC.skip <| WX.thenN <| WC.seq <| WC.seq <| WC.region <| sv (vaI rfl) <| WL.nil <| WX.thenN <| WC.block <| ?_
    refine WC.loop (ι := Nat × CS) (fun i => [(9, .int .i64 i.1)]) [(0, .int _ _), (1, .int _ _), (2, .slice _ _ _), (7, .pointer _)] (fun i => hc r6 i.2 :: A) (fun i => i.1 ≤ o.xs.length ∧ DwR N W i.1 i.2) (fun i => o.xs.length - i.1) ((0, S0)) (⟨Nat.zero_le _, ⟨1, g1, Nat.le_refl _, by rw [hS0]; exact hci1⟩, by rw [hS0]; exact hfe1, by rw [hS0]; exact d2, by rw [hS0]; exact d0⟩) ⟨rfl, trivial⟩ ⟨rfl, rfl, rfl, rfl, trivial⟩ (fun _ h => Sb.own (by repeat' (first | with_reducible exact Sb.all | exact Sb.nil | (apply Sb.cons; focus (first | ((repeat (first | with_reducible exact Tk.here | with_reducible apply Tk.there)); done) | ((repeat (first | exact Tk.here | apply Tk.there)); done))) | apply Sb.drop)) h) ?_
    rintro ⟨i, S⟩ ⟨hi1, hsf⟩ ρh
    dsimp only at hi1 hsf ⊢
    obtain ⟨⟨K, g, hKi, hci⟩, hfew, hSn, hdn⟩ := hsf
    refine WC.seq <| WC.seq <| WC.region <| sv (vmI rfl) <| sv (vmS rfl) <| sv (vlen Try.underlying22 rfl) <| sv (vlt rfl rfl) <| WL.nil <| WX.thenN <| ?_
    refine WC.ite rfl (fun h3 => ?_) (fun h3 => ?_)
    · -- then
      have hil : i < o.xs.length := by omega
      obtain ⟨a, ha⟩ : ∃ a, o.xs[i]? = some a := ⟨_, List.getElem?_eq_getElem hil⟩
      have hae := (List.getElem?_eq_some_iff.1 ha).2
      have hpos : 0 < (o.xs.flatMap cellO).length := by omega
      have hag : ((o.xs.flatMap cellO).drop (((i : Int)).toNat * 6)).take 6 = cellO a := by rw [Int.toNat_natCast, flat_take (f := cellO) (s := 6) (fun _ _ => rfl) hil, hae]
      have hRi : Reads w0 A o.base (o.xs.flatMap cellO) := ⟨RdC.old ho⟩
      refine WC.known (fun w h => rd_someO hpos hRi.rd (dropL [_] h)) fun hb => ?_
      obtain ⟨⟨ak, ai, an, akeep, _⟩, ap, ad, _⟩ := a
      have hga := hx _ (List.mem_of_getElem? ha)
      have hcb := count_bound (c := ai) (n := (N : Int)) (by omega)
      refine WC.skip <| WX.thenN <| WC.seq <| WC.block <| WC.seq <| WC.region <| sv (vmS rfl) <| sv (vmI rfl) <| sv (vix Try.underlying22 sz39 rfl rfl (by omega) (by omega) (RdC.old ho) hpos) <| sv (vlda ag39 sz39 rfl (RdC.old ho) hag rfl (by decide)) <| alz (cs := [.int .i64 0, .int .i64 0, .int .i64 0, .int .i64 0, .bool false, .string ByteArray.empty]) zt39 (by rfl) fun b12 => stAp sz39 rfl rfl rfl (by intro v hv; simp only [List.mem_cons, List.not_mem_nil, or_false] at hv; rcases hv with rfl | rfl | rfl | rfl | rfl | rfl <;> rfl) rfl <| WL.nil <| WX.thenN <| WC.seq <| ?_
      refine WC.cutS [(67, .bool (decide (ak = 7 ∧ 1 + countC ai N = W)))] [(0, .int _ _), (1, .int _ _), (2, .slice _ _ _), (7, .pointer _), (9, .int _ _), (10, .pointer _)] ⟨rfl, rfl, rfl, rfl, rfl, rfl, trivial⟩ ?_ fun ρh => ?_
      · -- more.go:55
        refine WC.region <| sv (vfldpz fl39f0 rfl) <| sv (vfldpz fl37f0 rfl) <| sv (vldc pl3 rfl) <| svs (veq rfl rfl) (fun q1 => ?_) (fun q1 => ?_)
        ·
          refine sv (vmB rfl) <| svg rfl (vfldpz fl39f0 rfl) <| svg rfl (vfldp fl37f1 rfl) <| svg rfl (vldc pl3 rfl) <| svg rfl (vmI rfl) <| gy rfl <| clx (by repeat' (first | with_reducible exact Sb.all | exact Sb.nil | (apply Sb.cons; focus (first | ((repeat (first | with_reducible exact Tk.here | with_reducible apply Tk.there)); done) | ((repeat (first | exact Tk.here | apply Tk.there)); done))) | apply Sb.drop)) (law_count (c := ai) (by omega) hga.1) ct8 rfl fun r16 hr16 => ?_
          exact svg rfl (vadd rfl rfl (by omega)) <| svg rfl (vmI rfl) <| svg rfl (veq rfl rfl) <| sv (vpkt rfl) <| WL.nil <| WX.mid () trivial ⟨bI (by first | omega | simp_all | grind), trivial⟩ ⟨rfl, rfl, rfl, rfl, rfl, rfl, trivial⟩ (fun _ h => Sb.own (by repeat' (first | with_reducible exact Sb.all | exact Sb.nil | (apply Sb.cons; focus (first | ((repeat (first | with_reducible exact Tk.here | with_reducible apply Tk.there)); done) | ((repeat (first | exact Tk.here | apply Tk.there)); done))) | apply Sb.drop)) h)
        ·
          exact sv (vmB rfl) <| sng rfl <| sng rfl <| sng rfl <| sng rfl <| sng rfl <| sng rfl <| sng rfl <| sng rfl <| sv (vpkf rfl) <| WL.nil <| WX.mid () trivial ⟨bF (by first | omega | simp_all | grind), trivial⟩ ⟨rfl, rfl, rfl, rfl, rfl, rfl, trivial⟩ (fun _ h => Sb.own (by repeat' (first | with_reducible exact Sb.all | exact Sb.nil | (apply Sb.cons; focus (first | ((repeat (first | with_reducible exact Tk.here | with_reducible apply Tk.there)); done) | ((repeat (first | exact Tk.here | apply Tk.there)); done))) | apply Sb.drop)) h)
      refine WC.ite rfl (fun h4 => ?_) (fun h4 => ?_)
      · -- then
        exact WC.exit <| WX.thenE <| WX.blockH <| WX.thenN <| WC.region <| sv (vmI rfl) <| sv (vadd rfl rfl (by omega)) <| sv (vaI rfl) <| WL.nil <| WX.again ((i + 1, S)) (⟨hil, ⟨K, g, by dsimp only; omega, hci⟩, hfew, hSn, hdn⟩) (by show o.xs.length - (i + 1) < o.xs.length - i; omega) ⟨rfl, trivial⟩ ⟨rfl, rfl, rfl, rfl, trivial⟩ (fun _ h => Sb.own (by repeat' (first | with_reducible exact Sb.all | exact Sb.nil | (apply Sb.cons; focus (first | ((repeat (first | with_reducible exact Tk.here | with_reducible apply Tk.there)); done) | ((repeat (first | exact Tk.here | apply Tk.there)); done))) | apply Sb.drop)) h)
      · -- else
        obtain ⟨g2, he2, hci2⟩ := hci.actO (n := N) (a := ((ak, ai, an, akeep, ()), ap, ad, ())) (by omega) hga.2
        have hfew2 := Few_actO (n := N) (a := ((ak, ai, an, akeep, ()), ap, ad, ())) hfew
        have hlen2 := stepM_len N ((ak, ai, an, akeep, ()), ap, ad, ()) S
        have hdn2 := Dn_actO (n := N) (a := ((ak, ai, an, akeep, ()), ap, ad, ())) hci (by omega) hdn h4
        obtain ⟨T, hT⟩ : ∃ T, T = actO N ((ak, ai, an, akeep, ()), ap, ad, ()) S := ⟨_, rfl⟩
        refine WC.skip <| WX.thenN <| WC.seq <| WC.region <| sv (vmP rfl) <| sv (vmI rfl) <| sv (vldac ag39 sz39 rfl rfl (by decide)) <| clx (by repeat' (first | with_reducible exact Sb.all | exact Sb.nil | (apply Sb.cons; focus (first | ((repeat (first | with_reducible exact Tk.here | with_reducible apply Tk.there)); done) | ((repeat (first | exact Tk.here | apply Tk.there)); done))) | apply Sb.drop)) (law_act (n := N) hci hfew (by omega) (by omega) hga.1 hga.2) ct10 rfl fun r19 hr19 => ?_
        rw [← hT] at hci2 hfew2 hlen2 hdn2 ⊢
        have hT5 := hci2.n.2
        have hpp := Dn_prop (d := xC) hdn2 (by omega) (by decide)
        have hnn := Dn_none hdn2
        have hml := hci2.mails
        have hcl : ∀ m ∈ T.mails, m.cells.length ≤ 1099511627776 := fun m hm => Nat.le_trans (hfew2 m hm) (by decide)
        refine WL.nil <| WX.thenN <| WC.seq <| WC.region <| sv (vmP rfl) <| sv (vmI rfl) <| clx (by repeat' (first | with_reducible exact Sb.all | exact Sb.nil | (apply Sb.cons; focus (first | ((repeat (first | with_reducible exact Tk.here | with_reducible apply Tk.there)); done) | ((repeat (first | exact Tk.here | apply Tk.there)); done))) | apply Sb.drop)) (c_prop_to (S' := T) (r := 0) (e := 20) hci2 (by omega) (by rw [hpp]) (by rw [hpp]) (by rw [hpp])) ct20 rfl fun r20 hr20 => ?_
        refine sv vmv <| sv (vex rfl rfl) <| sv (vex rfl rfl) <| sv (vaI rfl) <| sv (vaI rfl) <| WL.nil <| WX.thenN <| WC.seq <| ?_
        refine WC.cutS [(107, .bool (decide (False)))] [(0, .int _ _), (1, .int _ _), (2, .slice _ _ _), (7, .pointer _), (9, .int _ _)] ⟨rfl, rfl, rfl, rfl, rfl, trivial⟩ ?_ fun ρh => ?_
        · -- more.go:60
          refine WC.region <| sv (vmI rfl) <| sv (vF (vne rfl rfl) (by omega)) <| sv (vmB rfl) <| svg rfl (vmP rfl) <| svg rfl (vmI rfl) <| gy rfl <| clx (by repeat' (first | with_reducible exact Sb.all | exact Sb.nil | (apply Sb.cons; focus (first | ((repeat (first | with_reducible exact Tk.here | with_reducible apply Tk.there)); done) | ((repeat (first | exact Tk.here | apply Tk.there)); done))) | apply Sb.drop)) (c_up_none hT5 hnn) ct13 rfl fun r21 hr21 => ?_
          refine sv (vpkf rfl) <| sv (vmB rfl) <| svg rfl (vmP rfl) <| svg rfl (vmI rfl) <| gy rfl <| clx (by repeat' (first | with_reducible exact Sb.all | exact Sb.nil | (apply Sb.cons; focus (first | ((repeat (first | with_reducible exact Tk.here | with_reducible apply Tk.there)); done) | ((repeat (first | exact Tk.here | apply Tk.there)); done))) | apply Sb.drop)) (c_role_none hT5 hnn) ct17 rfl fun r22 hr22 => ?_
          refine svg rfl (vmP rfl) <| svg rfl (vmI rfl) <| gy rfl <| clx (by repeat' (first | with_reducible exact Sb.all | exact Sb.nil | (apply Sb.cons; focus (first | ((repeat (first | with_reducible exact Tk.here | with_reducible apply Tk.there)); done) | ((repeat (first | exact Tk.here | apply Tk.there)); done))) | apply Sb.drop)) (c_term_none hT5 hnn) ct14 rfl fun r23 hr23 => ?_
          refine svg rfl (vadd rfl rfl (by omega)) <| svg rfl (vmP rfl) <| svg rfl (vmI rfl) <| gy rfl <| clx (by repeat' (first | with_reducible exact Sb.all | exact Sb.nil | (apply Sb.cons; focus (first | ((repeat (first | with_reducible exact Tk.here | with_reducible apply Tk.there)); done) | ((repeat (first | exact Tk.here | apply Tk.there)); done))) | apply Sb.drop)) (c_commit_none hT5 hnn) ct18 rfl fun r25 hr25 => ?_
          refine svg rfl (vadd rfl rfl (by omega)) <| svg rfl (vmP rfl) <| svg rfl (vmI rfl) <| gy rfl <| clx (by repeat' (first | with_reducible exact Sb.all | exact Sb.nil | (apply Sb.cons; focus (first | ((repeat (first | with_reducible exact Tk.here | with_reducible apply Tk.there)); done) | ((repeat (first | exact Tk.here | apply Tk.there)); done))) | apply Sb.drop)) (c_leader_none hT5 hnn) ct21 rfl fun r27 hr27 => ?_
          refine svg rfl (vadd rfl rfl (by omega)) <| svg rfl (vmP rfl) <| svg rfl (vmI rfl) <| gy rfl <| clx (by repeat' (first | with_reducible exact Sb.all | exact Sb.nil | (apply Sb.cons; focus (first | ((repeat (first | with_reducible exact Tk.here | with_reducible apply Tk.there)); done) | ((repeat (first | exact Tk.here | apply Tk.there)); done))) | apply Sb.drop)) (c_log_none hT5 hnn) ct15 rfl fun r29 hr29 => ?_
          exact svg rfl (vlen Try.underlying31 rfl) <| svg rfl (vadd rfl rfl (by omega)) <| svg rfl (vF (vne rfl rfl) (by omega)) <| sv (vpkf rfl) <| WL.nil <| WX.mid () trivial ⟨bF (by first | omega | simp_all | grind), trivial⟩ ⟨rfl, rfl, rfl, rfl, rfl, trivial⟩ (fun _ h => Sb.own (by repeat' (first | with_reducible exact Sb.all | exact Sb.nil | (apply Sb.cons; focus (first | ((repeat (first | with_reducible exact Tk.here | with_reducible apply Tk.there)); done) | ((repeat (first | exact Tk.here | apply Tk.there)); done))) | apply Sb.drop)) h)
        refine WC.ff rfl ?_
        refine WC.skip <| WX.thenN <| WC.seq <| WC.region <| sv (vmP rfl) <| clx (by repeat' (first | with_reducible exact Sb.all | exact Sb.nil | (apply Sb.cons; focus (first | ((repeat (first | with_reducible exact Tk.here | with_reducible apply Tk.there)); done) | ((repeat (first | exact Tk.here | apply Tk.there)); done))) | apply Sb.drop)) (c_mails hml hcl) ct22 rfl fun r31 hr31 => ?_
        obtain ⟨lb, lc, lm⟩ := r31
        obtain ⟨hr31a, hr31b⟩ := hr31
        dsimp only at hr31a hr31b ⊢
        have hll : lm.length = T.mails.length := by have := congrArg List.length hr31a; rwa [List.length_map] at this
        have hlv := mvs_length lm
        refine sv (vaS rfl) <| WL.nil <| WX.thenN <| WC.seq <| WC.seq <| WC.region <| sv (vaI rfl) <| WL.nil <| WX.thenN <| WC.block <| ?_
        refine WC.loopS (ι := Nat) (fun i => [(14, .int .i64 i)]) [(0, .int _ _), (1, .int _ _), (2, .slice _ _ _), (7, .pointer _), (9, .int _ _), (13, .slice _ _ _)] (fun i => i ≤ lm.length) (fun i => lm.length - i) (0) (by omega) ⟨rfl, trivial⟩ ⟨rfl, rfl, rfl, rfl, rfl, rfl, trivial⟩ ?_
        intro k hk ρh
        refine WC.seq <| WC.seq <| WC.region <| sv (vmI rfl) <| sv (vmS rfl) <| sv (vlen Try.underlying50 rfl) <| sv (vlt rfl rfl) <| WL.nil <| WX.thenN <| ?_
        refine WC.ite rfl (fun h6 => ?_) (fun h6 => ?_)
        · -- then
          have hkl : k < lm.length := by omega
          obtain ⟨q, hq⟩ : ∃ q, lm[k]? = some q := ⟨_, List.getElem?_eq_getElem hkl⟩
          have hqm : q.ml ∈ T.mails := by rw [← hr31a]; exact List.mem_map_of_mem (List.mem_of_getElem? hq)
          have hok := hci2.iok.mails q.ml hqm
          have hq1 : 1 ≤ q.fr ∧ q.fr ≤ (T.ms.length : Int) := hok.fr
          have hq2 : 1 ≤ q.to_ ∧ q.to_ ≤ (T.ms.length : Int) := hok.to_
          have hq3 : q.fr ≠ q.to_ := hok.ne
          have hq4 : q.fr ≠ W := hdn2.mails q.ml hqm
          have hpos : 0 < (mvs lm).length := by omega
          have hf1 : (mvs lm)[((k : Int)).toNat * 9 + 1]? = some (.int .i64 q.fr) := by rw [Int.toNat_natCast, mvs_kth hq (by omega)]; rfl
          have hf2 : (mvs lm)[((k : Int)).toNat * 9 + 2]? = some (.int .i64 q.to_) := by rw [Int.toNat_natCast, mvs_kth hq (by omega)]; rfl
          refine WC.known (fun w h => rsome (base := lb) hpos (RdC.of_row (List.Mem.head _)) h) fun hb => ?_
          refine WC.skip <| WX.thenN <| WC.seq <| WC.block <| ?_
          refine WC.cutS [(169, .bool (decide (False)))] [(0, .int _ _), (1, .int _ _), (2, .slice _ _ _), (7, .pointer _), (9, .int _ _), (13, .slice _ _ _), (14, .int _ _)] ⟨rfl, rfl, rfl, rfl, rfl, rfl, rfl, trivial⟩ ?_ fun ρh => ?_
          · -- more.go:65
            exact WC.draws rfl (by kernel_rfl) <| qv (vmS rfl) <| qv (vmI rfl) <| qv (vix Try.underlying50 sz54 rfl rfl (by omega) (by omega) reads hpos) <| qv (vfldr (hb) fl54f1 rfl) <| qv (vldr pl3 rfl hf1) <| qv (vmI rfl) <| qv (vF (veq rfl rfl) (by omega)) <| qv (vmB rfl) <| qvg rfl (vmS rfl) <| qvg rfl (vmI rfl) <| qvg rfl (vix Try.underlying50 sz54 rfl rfl (by omega) (by omega) reads hpos) <| qvg rfl (vfldr (hb) fl54f1 rfl) <| qvg rfl (vldr pl3 rfl hf1) <| qvg rfl (vF (vlt rfl rfl) (by omega)) <| qv (vpkf rfl) <| qv (vmB rfl) <| qvg rfl (vmS rfl) <| qvg rfl (vmI rfl) <| qvg rfl (vix Try.underlying50 sz54 rfl rfl (by omega) (by omega) reads hpos) <| qvg rfl (vfldr (hb) fl54f1 rfl) <| qvg rfl (vldr pl3 rfl hf1) <| qvg rfl (vmI rfl) <| qvg rfl (vF (vgt rfl rfl) (by omega)) <| qv (vpkf rfl) <| qv (vmB rfl) <| qvg rfl (vmS rfl) <| qvg rfl (vmI rfl) <| qvg rfl (vix Try.underlying50 sz54 rfl rfl (by omega) (by omega) reads hpos) <| qvg rfl (vfldr (hb) fl54f2 rfl) <| qvg rfl (vldr pl3 rfl hf2) <| qvg rfl (vF (vlt rfl rfl) (by omega)) <| qv (vpkf rfl) <| qv (vmB rfl) <| qvg rfl (vmS rfl) <| qvg rfl (vmI rfl) <| qvg rfl (vix Try.underlying50 sz54 rfl rfl (by omega) (by omega) reads hpos) <| qvg rfl (vfldr (hb) fl54f2 rfl) <| qvg rfl (vldr pl3 rfl hf2) <| qvg rfl (vmI rfl) <| qvg rfl (vF (vgt rfl rfl) (by omega)) <| qv (vpkf rfl) <| qv (vmB rfl) <| qvg rfl (vmS rfl) <| qvg rfl (vmI rfl) <| qvg rfl (vix Try.underlying50 sz54 rfl rfl (by omega) (by omega) reads hpos) <| qvg rfl (vfldr (hb) fl54f1 rfl) <| qvg rfl (vldr pl3 rfl hf1) <| qvg rfl (vmS rfl) <| qvg rfl (vmI rfl) <| qvg rfl (vix Try.underlying50 sz54 rfl rfl (by omega) (by omega) reads hpos) <| qvg rfl (vfldr (hb) fl54f2 rfl) <| qvg rfl (vldr pl3 rfl hf2) <| qvg rfl (vF (veq rfl rfl) (by omega)) <| qv (vpkf rfl) <| WQ.nil <| WX.mid () trivial ⟨bF (by first | omega | simp_all | grind), trivial⟩ ⟨rfl, rfl, rfl, rfl, rfl, rfl, rfl, trivial⟩ (fun _ h => Sb.own (by repeat' (first | with_reducible exact Sb.all | exact Sb.nil | (apply Sb.cons; focus (first | ((repeat (first | with_reducible exact Tk.here | with_reducible apply Tk.there)); done) | ((repeat (first | exact Tk.here | apply Tk.there)); done))) | apply Sb.drop)) h)
          refine WC.ff rfl ?_
          exact WC.skip <| WX.blockN <| WX.thenN <| WC.region <| sv (vmI rfl) <| sv (vadd rfl rfl (by omega)) <| sv (vaI rfl) <| WL.nil <| WX.again (k + 1) (by omega) (by omega) ⟨rfl, trivial⟩ ⟨rfl, rfl, rfl, rfl, rfl, rfl, trivial⟩ (fun _ h => Sb.own (by repeat' (first | with_reducible exact Sb.all | exact Sb.nil | (apply Sb.cons; focus (first | ((repeat (first | with_reducible exact Tk.here | with_reducible apply Tk.there)); done) | ((repeat (first | exact Tk.here | apply Tk.there)); done))) | apply Sb.drop)) h)
        · -- else
          refine WC.exit <| WX.thenE <| WX.thenE <| WX.blockH <| WX.thenN <| WC.seq <| WC.region <| sv (vaI rfl) <| WL.nil <| WX.thenN <| WC.block <| ?_
          refine WC.loopS (ι := Nat) (fun i => [(15, .int .i64 ((i : Int) + 1))]) [(0, .int _ _), (1, .int _ _), (2, .slice _ _ _), (7, .pointer _), (9, .int _ _)] (fun i => i ≤ N) (fun i => N - i) (0) (by omega) ⟨rfl, trivial⟩ ⟨rfl, rfl, rfl, rfl, rfl, trivial⟩ ?_
          intro k3 hk3 ρh
          refine WC.seq <| WC.seq <| WC.region <| sv (vmI rfl) <| sv (vmI rfl) <| sv (vle rfl rfl) <| WL.nil <| WX.thenN <| ?_
          refine WC.ite rfl (fun h8 => ?_) (fun h8 => ?_)
          · -- then
            have hld := Dn_leader (i := (k3 : Int) + 1) hdn2 (by omega)
            refine WC.skip <| WX.thenN <| WC.seq <| WC.block <| WC.seq <| WC.region <| sv (vmP rfl) <| sv (vmI rfl) <| clx (by repeat' (first | with_reducible exact Sb.all | exact Sb.nil | (apply Sb.cons; focus (first | ((repeat (first | with_reducible exact Tk.here | with_reducible apply Tk.there)); done) | ((repeat (first | exact Tk.here | apply Tk.there)); done))) | apply Sb.drop)) (c_leader hT5) ct21 rfl fun r47 hr47 => ?_
            refine sv (vmI rfl) <| sv (veq rfl rfl) <| WL.nil <| WX.thenN <| ?_
            refine WC.ite rfl (fun h9 => ?_) (fun h9 => ?_)
            · -- then
              exact absurd h9 hld
            · -- else
              exact WC.skip <| WX.blockN <| WX.thenN <| WC.region <| sv (vmI rfl) <| sv (vadd rfl rfl (by omega)) <| sv (vaI rfl) <| WL.nil <| WX.again (k3 + 1) (by omega) (by omega) ⟨iv (by push_cast; omega), trivial⟩ ⟨rfl, rfl, rfl, rfl, rfl, trivial⟩ (fun _ h => Sb.own (by repeat' (first | with_reducible exact Sb.all | exact Sb.nil | (apply Sb.cons; focus (first | ((repeat (first | with_reducible exact Tk.here | with_reducible apply Tk.there)); done) | ((repeat (first | exact Tk.here | apply Tk.there)); done))) | apply Sb.drop)) h)
          · -- else
            exact WC.exit <| WX.thenE <| WX.thenE <| WX.blockH <| WX.blockN <| WX.thenN <| WC.region <| sv (vmI rfl) <| sv (vadd rfl rfl (by omega)) <| sv (vaI rfl) <| WL.nil <| WX.again ((i + 1, T)) (⟨hil, ⟨K + 1, g2, by dsimp only; omega, hci2⟩, hfew2, by dsimp only; rw [hlen2, hSn], hdn2⟩) (by show o.xs.length - (i + 1) < o.xs.length - i; omega) ⟨rfl, trivial⟩ ⟨rfl, rfl, rfl, rfl, trivial⟩ (fun _ h => Sb.own (by repeat' (first | with_reducible exact Sb.all | exact Sb.nil | (apply Sb.cons; focus (first | ((repeat (first | with_reducible exact Tk.here | with_reducible apply Tk.there)); done) | ((repeat (first | exact Tk.here | apply Tk.there)); done))) | apply Sb.drop)) h)
    · -- else
      refine WC.exit <| WX.thenE <| WX.thenE <| WX.blockH <| WX.thenN <| WC.seq <| WC.region <| clx (by repeat' (first | with_reducible exact Sb.all | exact Sb.nil | (apply Sb.cons; focus (first | ((repeat (first | with_reducible exact Tk.here | with_reducible apply Tk.there)); done) | ((repeat (first | exact Tk.here | apply Tk.there)); done))) | apply Sb.drop)) (law_awake) ct12 rfl fun r50 hr50 => ?_
      exact sv (vaB rfl) <| WL.nil <| WX.thenN <| WC.ret <| WX.ret1 rfl (()) (trivial) rfl (fun _ h => Sb.own (by repeat' (first | with_reducible exact Sb.all | exact Sb.nil | (apply Sb.cons; focus (first | ((repeat (first | with_reducible exact Tk.here | with_reducible apply Tk.there)); done) | ((repeat (first | exact Tk.here | apply Tk.there)); done))) | apply Sb.drop)) h)
end Go.Proofs.Ytigjompojlhomaa
end
