/-
  Layer 3's reference: all records of any bytes; the law on them.
-/
import Derived.Test.YtephlppgappcnaaJournalRefA
set_option linter.unusedVariables false
set_option linter.unusedSimpArgs false
set_option maxRecDepth 4000
namespace Go.Proofs.Ytephlppgappcnaa
open Go.Sl Go.RowKit Go.Pack Go.Journal

theorem all_val {b1 b1' : Value} {n n' : Int} (e0 : b1 = b1') (e1 : n = n') : Value.tuple #[b1, .int .i64 n] = .tuple #[b1', .int .i64 n'] := by rw [e0, e1]
structure AlI where
  done : List (Sla UInt8)
  at_ : Nat
  qb : Option Addr
  qc : Nat
structure AlR (bs : List UInt8) (i : AlI) : Prop where
  recs : i.done.map (·.xs) ++ (recsB (bs.drop i.at_)).1 = (recsB bs).1
  left : (recsB (bs.drop i.at_)).2 = (recsB bs).2
  le : i.at_ ≤ bs.length
  len : i.done.length ≤ i.at_
  qcap : i.done.length ≤ i.qc
theorem ref_all {w0 : World} {A : List HProp} {base : Option Addr} {c k : Nat} {bs : List UInt8} (hR : RdC w0 A base (u8s bs)) (hk : k = bs.length) (hc : bs.length ≤ c) (hbl : bs.length ≤ 1073741824) :
    Fun Try.prog w0 14 [.slice base k c] A
      (Ret w0 (fun i : Option Addr × Nat × List (Sla UInt8) => i.2.2.map (·.xs) = (recsB bs).1 ∧ i.2.2.length ≤ i.2.1) (fun i => .tuple #[.slice i.1 i.2.2.length i.2.1, .int .i64 (flat (recsB bs).1).length])
        (fun i => row i.1 i.2.1 1 22 (bss i.2.2) :: rows 5 i.2.2 :: A)) := by
  have hwh := congrArg List.length (recsB_whole bs)
  rw [List.length_append] at hwh
  refine Fun.enter Try.func14 rfl Try.ntmps14 rfl ?_
  refine WC.seq <| WC.region <| sv (vaS rfl) <| sv (vaI rfl) <| WL.nil <| WX.thenN <| WC.seq <| WC.region <| sv (vaS rfl) <| WL.nil <| WX.thenN <| WC.seq <| WC.region <| sv (vaI rfl) <| WL.nil <| WX.thenN <| WC.block <| ?_
  refine WC.loop (ι := AlI) (fun i => [(4, .slice i.qb i.done.length i.qc), (5, .int .i64 i.at_)]) [(0, .slice _ _ _)] (fun i => row i.qb i.qc 1 22 (bss i.done) :: rows 5 i.done :: A) (fun i => AlR bs i) (fun i => bs.length - i.at_) (⟨[], 0, none, 0⟩) (⟨by simp, by simp, by simp, by simp, by simp⟩) ⟨rfl, rfl, trivial⟩ ⟨rfl, trivial⟩ (fun w h => Own.intro_row_nil (Own.intro_emp h)) ?_
  rintro ⟨done, at_, qb, qc⟩ ⟨u1, u2, u3, u4, u5⟩ ρh
  dsimp only at u1 u2 u3 u4 u5 ⊢
  have hdl : (bs.drop at_).length = bs.length - at_ := List.length_drop
  have hrd : RdC w0 A (slB base at_ c 1) (u8s (bs.drop at_)) := rdbL hR at_ c hc
  rcases hn : nextB (bs.drop at_) with _ | m
  · -- none
    have hrs := recsB_none hn
    rw [hrs] at u1 u2
    dsimp only at u1 u2
    rw [List.append_nil] at u1
    rw [← u2, hdl] at hwh
    refine WC.block <| WC.seq <| WC.region <| sv (vmS rfl) <| sv (vmI rfl) <| sv (vslL Try.underlying22 sz5 rfl rfl (by omega) (by omega)) <| cl (ref_first_none hrd.cons.cons (by rw [hdl]; omega) (by rw [hdl]; omega) (by rw [hdl]; omega) hn) ct36 rfl fun _ _ => sv vmv <| sv (vex rfl rfl) <| sv (vex rfl rfl) <| sv (vaS rfl) <| sv (vaB rfl) <| WL.nil <| WX.thenN <| WC.seq <| WC.seq <| WC.region <| sv (vmB rfl) <| sv (vnot rfl) <| WL.nil <| WX.thenN <| ?_
    refine WC.tt rfl ?_
    exact WC.seq <| WC.region <| sv (vmS rfl) <| sv (vmI rfl) <| sv (vaS rfl) <| sv (vaI rfl) <| WL.nil <| WX.thenN <| WC.ret <| WX.thenR <| WX.blockR <| WX.thenR <| WX.blockR <| WX.ret2 rfl ((qb, qc, done)) (⟨u1, u5⟩) (all_val rfl (by omega)) (fun _ h => h)
  · -- some
    have hle := nextB_le hn
    have hrs := recsB_some hn
    rw [hdl] at hle
    have hml : (((bs.drop at_).drop 8).take m).length = m := by rw [List.length_take, List.length_drop, hdl]; omega
    refine WC.block <| WC.seq <| WC.region <| sv (vmS rfl) <| sv (vmI rfl) <| sv (vslL Try.underlying22 sz5 rfl rfl (by omega) (by omega)) <| cl (ref_first_some hrd.cons.cons (by rw [hdl]; omega) (by rw [hdl]; omega) (by rw [hdl]; omega) hn) ct36 rfl fun _ _ => sv vmv <| sv (vex rfl rfl) <| sv (vex rfl rfl) <| sv (vaS rfl) <| sv (vaB rfl) <| WL.nil <| WX.thenN <| WC.seq <| WC.seq <| WC.region <| sv (vmB rfl) <| sv (vnot rfl) <| WL.nil <| WX.thenN <| ?_
    refine WC.ff rfl ?_
    refine WC.skip <| WX.thenN <| WC.seq <| WC.region <| bsl0 Try.underlying22 zt5 fun b3 => sv (vaS rfl) <| WL.nil <| WX.thenN <| WC.seq <| WC.region <| sv (vmS rfl) <| sv (vmS rfl) <| apb Try.underlying22 zt5 rfl rfl (by simp) (by rw [hml]) (rdb hrd 8 (c - at_) m (by omega)).cons.cons.cons (by omega) fun base4 c4 hc4 =>sv (vaS rfl) <| WL.nil <| WX.thenN <| WC.seq <| WC.region <| sv (vmS rfl) <| sv (vmS rfl) <| pm (fun _ h => h.pk1) <| ap1 (v := .slice _ _ _) Try.underlying28 zt22 rfl (fun _ => rfl) (fun _ => rfl) rfl rfl rfl (by rw [bss_length]) (by simp only [maxLen]; omega) (by omega) fun _ base6 c6 hc6 =>sv (vaS rfl) <| WL.nil <| WX.thenN <| WC.region <| sv (vmI rfl) <| sv (vadd rfl rfl (by omega)) <| sv (vmS rfl) <| sv (vlen Try.underlying22 rfl) <| sv (vadd rfl rfl (by omega)) <| sv (vaI rfl) <| WL.nil <| WX.blockN <| WX.again (⟨done ++ [⟨base4, ((bs.drop at_).drop 8).take m, c4⟩], at_ + 8 + m, base6, c6⟩) (⟨by dsimp only; rw [List.map_append, ← u1, hrs, List.drop_drop]; simp [Nat.add_assoc], by dsimp only; rw [← u2, hrs, List.drop_drop]; simp [Nat.add_assoc], by dsimp only; omega, by simp only [List.length_append, List.length_cons, List.length_nil]; omega, by rw [List.length_append]; exact hc6⟩) (by dsimp only; omega) ⟨by show Value.slice _ _ _ = Value.slice _ _ _; rw [List.length_append]; rfl, by show Value.int _ _ = Value.int _ _; rw [show ((at_ + 8 + m : Nat) : Int) = (at_ : Int) + 8 + (m : Int) by omega], trivial⟩ ⟨rfl, trivial⟩ (fun w h => ?_)
    rw [bss_snoc]
    dsimp only
    rw [hml]
    simp only [List.length_nil, Nat.zero_add] at h
    exact (rows_snoc (y := ⟨base4, ((bs.drop at_).drop 8).take m, c4⟩) (h.ix [1, 2, 0])).ix [1, 0]
theorem walk_reads3 {w0 : World} {A : List HProp} {fb : Option Addr} {fc : Nat} {file : List UInt8} (hf : Rd w0 fb (u8s file)) (hfc : file.length ≤ fc) :
    Fun Try.prog w0 4 [.slice fb file.length fc] A (Ret w0 (fun _ : Unit => True) (fun _ => .bool true) (fun _ => A)) := by
  refine Fun.enter Try.func4 rfl Try.ntmps4 rfl ?_
  refine WC.seq <| WC.region <| sv (vaB rfl) <| WL.nil <| WX.thenN <| WC.seq <| WC.seq <| WC.region <| sv (vmS rfl) <| sv (vlen Try.underlying22 rfl) <| sv (vgt rfl rfl) <| WL.nil <| WX.thenN <| ?_
  refine WC.ite rfl (fun h1 => ?_) (fun h1 => ?_)
  · -- then
    exact WC.seq <| WC.region <| sv (vaB rfl) <| WL.nil <| WX.thenN <| WC.ret <| WX.thenR <| WX.ret1 rfl (()) (trivial) rfl (fun _ h => h)
  · -- else
    obtain ⟨s1, e1, f1, i1⟩ := Fl.new.append (nm := nmJ) (b := file) nmJ_ok (by simp; omega)
    rw [List.nil_append] at f1
    obtain ⟨s2, n2, e2, f2, l2, m2, i2⟩ := f1.open nmJ_ok
    have hwh := recsB_whole file
    have hwl := congrArg List.length hwh
    rw [List.length_append] at hwl
    have hr1 : (recsB (readS nmJ s1).1).1 = (recsB file).1 := by rw [f1.read]
    have hr2 : readS nmJ s2 = (flat (recsB file).1, 0) := by obtain ⟨sf, o⟩ := f2.one (i2 i1); exact o.read
    have hpre : file.take (flat (recsB file).1).length = flat (recsB file).1 := by
      conv => lhs; rw [← hwh]
      exact List.take_left' (by rw [hwh])
    have d1 := f1.deeds
    have hfl := flat_length (recsB file).1
    refine WC.skip <| WX.thenN <| WC.seq <| WC.region <| cl (disk_new) ct8 rfl fun d _ => sv (vaP rfl) <| WL.nil <| WX.thenN <| WC.seq <| ?_
    refine WC.cut0 [(22, .bool false)] [(0, .slice _ _ _), (3, .pointer _)] (pdisk d s1 :: A) ⟨rfl, rfl, trivial⟩ ?_ fun ρh => ?_
    · -- law.go:178
      exact WC.region <| sv (vmP rfl) <| sv (vpeqF Try.underlying23 rfl rfl) <| sv (vmB rfl) <| svg rfl (vmP rfl) <| svg rfl (vmS rfl) <| gy rfl <| cl (disk_append_at (nm := nmJ) (hR := ⟨RdC.old hf⟩) nmJ_len (by decide) (by omega) rfl e1) ct9 rfl fun _ _ => svg rfl (vF (vne rfl rfl) (by omega)) <| sv (vpkf rfl) <| WL.nil <| WX.mid () trivial ⟨rfl, trivial⟩ ⟨rfl, rfl, trivial⟩ (fun _ h => h)
    refine WC.ff rfl ?_
    refine WC.skip <| WX.thenN <| WC.seq <| WC.region <| sv (vmS rfl) <| cl (ref_all (RdC.old hf) rfl hfc (by omega)) ct14 rfl fun i4 hi4 => ?_
    obtain ⟨u4, v4⟩ := hi4
    have len4 : i4.2.2.length = (recsB file).1.length := by have := congrArg List.length u4; simpa using this
    refine sv vmv <| sv (vex rfl rfl) <| sv (vex rfl rfl) <| sv (vaS rfl) <| sv (vaI rfl) <| WL.nil <| WX.thenN <| WC.seq <| WC.region <| sv (vmP rfl) <| pm (fun _ h => h.pk2) <| cl (journal_open_at (nm := nmJ) (by omega) e2 hr1) ct10 rfl fun i5 hi5 => ?_
    obtain ⟨u5, v5⟩ := hi5
    refine sv vmv <| sv (vex rfl rfl) <| sv (vex rfl rfl) <| sv (vex rfl rfl) <| sv (vaP rfl) <| sv (vaS rfl) <| sv (vaI rfl) <| WL.nil <| WX.thenN <| WC.seq <| WC.region <| sv (vmP rfl) <| pm (fun _ h => h.pk1) <| cl (disk_read_at (nm := nmJ) hr2) ct15 rfl fun i6 hi6 => sv vmv <| sv (vex rfl rfl) <| sv (vex rfl rfl) <| sv (vaS rfl) <| sv (vaI rfl) <| WL.nil <| WX.thenN <| ?_
    refine WC.cut0 [(2, .bool true)] [] (A) trivial ?_ fun ρh => ?_
    · -- law.go:184
      exact WC.draws rfl (by kernel_rfl) <| qcl (Fun.quiet (law3_awake)) ct13 rfl <| qv (vmB rfl) <| qvg rfl (vmI rfl) <| qvg rfl (vT (veq rfl rfl) (by omega)) <| qv (vpkt rfl) <| qv (vmB rfl) <| qvg rfl (vmI rfl) <| qvg rfl (vT (veq rfl rfl) (by omega)) <| qv (vpkt rfl) <| qv (vmB rfl) <| qvg rfl (vmS rfl) <| qvg rfl (vmS rfl) <| qclg rfl (Fun.quiet (law3_same_true i4.2.2 i5.2.2.2 reads (fun x hx => RdC.of_rows (e := 5) (by simp) hx) reads (fun x hx => RdC.of_rows (e := 5) (by simp) hx) rfl rfl (by omega) (by rw [u4, u5]))) ct11 rfl <| qv (vpkt rfl) <| qv (vmB rfl) <| qvg rfl (vmS rfl) <| qvg rfl (vstr Try.underlying22 Try.underlying5 Try.underlying9 rfl reads (by simp)) <| qvg rfl (vmS rfl) <| qvg rfl (vmI rfl) <| qvg rfl (vslH Try.underlying22 sz5 rfl rfl (by omega) (by omega)) <| qvg rfl (vstr Try.underlying22 Try.underlying5 Try.underlying9 rfl (rdbT (RdC.old hf) (flat (recsB file).1).length) (by rw [List.length_take]; omega)) <| qvg rfl (vT (veqs rfl rfl) (bytes_eq.2 hpre.symm)) <| qv (vpkt rfl) <| qv (vaB rfl) <| WQ.nil <| WX.mid () trivial ⟨rfl, trivial⟩ trivial (fun w h => h.suf)
    exact WC.ret <| WX.ret1 rfl (()) (trivial) rfl (fun _ h => h)
end Go.Proofs.Ytephlppgappcnaa
